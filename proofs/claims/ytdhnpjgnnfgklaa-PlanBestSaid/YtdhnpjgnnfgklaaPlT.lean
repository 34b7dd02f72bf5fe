/- Plan (chapter 39): the best plan (the specification). -/
import Derived.Test.YtdhnpjgnnfgklaaPlS
namespace Go.Proofs.Ytdhnpjgnnfgklaa
set_option linter.unusedSimpArgs false
set_option linter.unusedVariables false
open Go.RowKit
set_option maxRecDepth 100000
attribute [local irreducible] wpX wpF Calls
attribute [local go_sem] run_mkMapG

theorem flat_dropP {ys : List P6} {i : Nat} (hi : i ≤ ys.length) : (ys.drop i).flatMap pC = (ys.flatMap pC).drop (i * 6) := by
  have e : ys.flatMap pC = (ys.take i).flatMap pC ++ (ys.drop i).flatMap pC := by rw [← List.flatMap_append, List.take_append_drop]
  rw [e, List.drop_left' (by rw [flat_len pC_len, List.length_take]; omega)]
theorem addr_addP (g o q : Nat) : (⟨g, o, none⟩ : Addr).add q = ⟨g, o + q, none⟩ := by unfold Addr.add; split <;> simp_all
theorem srcTakeP {w : World} {g c i cc : Nat} {ys : List P6} (h : w.ownsRow 0 39 6 (.slice (some ⟨g, 0, none⟩) ys.length c) ys.length (ys.flatMap pC)) (hi : i ≤ ys.length) : SrcOk w (some ⟨g, 0, none⟩) i cc ((ys.take i).flatMap pC) := .inr ⟨_, rfl, fun q y hq => by
  rw [← flat_takeP, List.getElem?_take] at hq
  split at hq
  · rw [addr_addP, Nat.zero_add]
    exact (World.ownsRow.cellAt h q (by omega)).trans hq
  · cases hq⟩
theorem srcDropP {w : World} {g c i cc : Nat} {ad : Addr} {ys : List P6} (h : w.ownsRow 0 39 6 (.slice (some ⟨g, 0, none⟩) ys.length c) ys.length (ys.flatMap pC)) (hi : i ≤ ys.length) (had : 0 < ys.length - i → ad = ⟨g, i * 6, none⟩) : SrcOk w (some ad) (ys.length - i) cc ((ys.drop i).flatMap pC) := .inr ⟨_, rfl, fun q y hq => by
  have hl := (List.getElem?_eq_some_iff.1 hq).1
  rw [flat_len pC_len, List.length_drop] at hl
  rw [flat_dropP hi, List.getElem?_drop] at hq
  rw [had (by omega), addr_addP]
  exact (World.ownsRow.cellAt h (i * 6 + q) (by omega)).trans hq⟩
theorem fold_take {l : List Nd} {k : Nat} (hk : k < l.length) : (l.take (k + 1)).foldl (fun acc x => insR (rankP x.p) acc) [] = insR (rankP l[k]!.p) ((l.take k).foldl (fun acc x => insR (rankP x.p) acc) []) := by
  rw [List.take_add_one, List.getElem?_eq_getElem hk, List.foldl_append, getElem!_pos l k hk]
  rfl
theorem insR_at {r : P6} : ∀ {xs : List P6} {i : Nat}, (∀ j, j < i → befP xs[j]! r = true) → i ≤ xs.length → (i = xs.length ∨ befP xs[i]! r = false) → insR r xs = if i = xs.length ∨ xs[i]! ≠ r then xs.take i ++ r :: xs.drop i else xs
  | [], i, _, hi, _ => by
    have : i = 0 := by simpa using hi
    subst this
    simp [insR]
  | y :: xs, 0, _, _, h => by
    have h1 : befP y r = false := by
      rcases h with h | h
      · simp at h
      · exact h
    rw [insR, if_neg (by rw [h1]; simp)]
    have e0 : (y :: xs)[0]! = y := rfl
    rw [e0]
    by_cases e : y = r
    · rw [if_pos e, if_neg (by simp [e])]
    · rw [if_neg e, if_pos (.inr e)]; rfl
  | y :: xs, i + 1, hb, hi, h => by
    have h0 : befP y r = true := hb 0 (by omega)
    rw [insR, if_pos h0, insR_at (i := i) (fun j hj => by have := hb (j + 1) (by omega); simpa using this) (by simpa using hi) (by
      rcases h with h | h
      · left; simpa using h
      · right; simpa using h)]
    have e1 : (y :: xs)[i + 1]! = xs[i]! := by simp
    rw [e1]
    by_cases e : i = xs.length ∨ xs[i]! ≠ r
    · rw [if_pos e, if_pos (by rcases e with e | e; left; simp [e]; right; exact e)]
      simp
    · rw [if_neg e, if_neg (fun h => e (by rcases h with h | h; left; simpa using h; right; exact h))]
theorem bit_atI (n k : Nat) (hn : n < 4611686018427387904) : bits .and .i64 ((n : Int) / 2 ^ k) 1 = ((n / 2 ^ k % 2 : Nat) : Int) := by
  have h1 : ((n : Int) / 2 ^ k) = ((n / 2 ^ k : Nat) : Int) := by push_cast; rfl
  have h2 : n / 2 ^ k ≤ n := Nat.div_le_self _ _
  rw [h1, show (1 : Int) = ((1 : Nat) : Int) from rfl, i64_and_nat _ _ (by omega) (by omega), Nat.and_one_is_mod]
theorem div_in (n k : Nat) (hn : n ≤ 4096) : 0 ≤ (n : Int) / 2 ^ k ∧ (n : Int) / 2 ^ k ≤ 4096 := by
  have h1 : ((n : Int) / 2 ^ k) = ((n / 2 ^ k : Nat) : Int) := by push_cast; rfl
  have h2 : n / 2 ^ k ≤ n := Nat.div_le_self _ _
  rw [h1]; exact ⟨Int.natCast_nonneg _, Int.ofNat_le.2 (Nat.le_trans h2 hn)⟩
set_option maxHeartbeats 8000000 in
theorem rBest_bad1 (a0 a1 a2 a3 a4 a5 : Int) {sa : Option Addr} (c : Nat) {l : List Nd} (hx : l.length ≤ 100000) (hcap : l.length ≤ c) (a b : Int) (hv : ¬ validN ⟨a0, a1, a2, a3, a4, a5⟩ l) (w : World) (hl : Lies w w.heap.size sa 7 l.length (fun j => ndC l[j]!)) :
    Calls Try.prog 17 #[v6 a0 a1 a2 a3 a4 a5, .slice sa l.length c, .int .i64 a, .int .i64 b] w (GivesPl ⟨[], [], 0⟩ 1 w) := by
  have hvd := decide_eq_false hv
  have HL := Lib.hid hl
  clear hl
  go_enter Try.func17, Try.ntmps17
  have H := HS.start NoD w
  have HVA := Lib.hid (fun wx hx9 => rvalidN_any a0 a1 a2 a3 a4 a5 (sa := sa) c hx hcap wx hx9)
  go_upto_region 1 with fail
  generalize hwb : (w.alloc _).alloc _ = w1
  replace H := HS.eqW hwb H.alloc.alloc
  try simp only [World.size_alloc, List.nil_append, List.cons_append, List.append_assoc] at H
  clear hwb
  generalize w.heap.size + 1 = bO at H ⊢
  generalize w.heap.size = bS at H ⊢
  try clear C
  have C := H.cells
  try simp only [cellsOf, cellsM, apartOf, apartM, and_true] at C
  go_wp2_with fail
  refine (HVA.out _ (H.liesUp HL.out)).mono ?_
  rintro _ w5 ⟨rfl, hb⟩
  replace H := H.below hb
  clear hb HVA
  rw [hvd]
  clear hvd
  skip
  try clear C
  try simp only [World.size_alloc, List.nil_append, List.cons_append, List.append_assoc] at H
  have C := H.cells
  try simp only [cellsOf, cellsM, apartOf, apartM, and_true] at C
  dsimp only
  go_wp2_with fail
  generalize hwb : ((w5.setCell _ _).setCell _ _).setCell _ _ = w2
  replace H := HS.eqW hwb (H.putAll (i := 1) rfl (vs := [.slice none 0 0, .slice none 0 0, .int .i64 0]) rfl rfl)
  simp only [List.nil_append, List.cons_append, List.append_assoc, List.set_cons_succ, List.set_cons_zero] at H
  clear hwb
  try clear C
  try clear w5
  have C := H.cells
  try simp only [cellsOf, cellsM, apartOf, apartM, and_true] at C
  refine bodyPost_ret (by simp [results, Try.results17, go_sem, C]; try rfl) rfl ?_
  exact givesPl_nil H.done
set_option maxHeartbeats 8000000 in
theorem rBest_bad2 (a0 a1 a2 a3 a4 a5 : Int) {sa : Option Addr} (c : Nat) {l : List Nd} (hx : l.length ≤ 100000) (hcap : l.length ≤ c) (a b : Int) (hv : validN ⟨a0, a1, a2, a3, a4, a5⟩ l) (hf : ¬ ((0 ≤ a ∧ a ≤ 12) ∧ 0 ≤ b ∧ b ≤ 12)) (w : World) (hl : Lies w w.heap.size sa 7 l.length (fun j => ndC l[j]!)) :
    Calls Try.prog 17 #[v6 a0 a1 a2 a3 a4 a5, .slice sa l.length c, .int .i64 a, .int .i64 b] w (GivesPl ⟨[], [], 0⟩ 2 w) := by
  have hvd := decide_eq_true hv
  clear hv
  have HL := Lib.hid hl
  clear hl
  go_enter Try.func17, Try.ntmps17
  have H := HS.start NoD w
  have HVA := Lib.hid (fun wx hx9 => rvalidN_any a0 a1 a2 a3 a4 a5 (sa := sa) c hx hcap wx hx9)
  go_upto_region 1 with fail
  generalize hwb : (w.alloc _).alloc _ = w1
  replace H := HS.eqW hwb H.alloc.alloc
  try simp only [World.size_alloc, List.nil_append, List.cons_append, List.append_assoc] at H
  clear hwb
  generalize w.heap.size + 1 = bO at H ⊢
  generalize w.heap.size = bS at H ⊢
  try clear C
  have C := H.cells
  try simp only [cellsOf, cellsM, apartOf, apartM, and_true] at C
  go_wp2_with fail
  refine (HVA.out _ (H.liesUp HL.out)).mono ?_
  rintro _ w5 ⟨rfl, hb⟩
  replace H := H.below hb
  clear hb HVA
  rw [hvd]
  clear hvd
  skip
  try clear C
  try simp only [World.size_alloc, List.nil_append, List.cons_append, List.append_assoc] at H
  have C := H.cells
  try simp only [cellsOf, cellsM, apartOf, apartM, and_true] at C
  dsimp only
  skip
  by_cases h1 : 0 ≤ a
  · by_cases h2 : a ≤ 12
    · by_cases h3 : 0 ≤ b
      · have h4 : ¬ b ≤ 12 := fun h => hf ⟨⟨h1, h2⟩, h3, h⟩
        skip
        go_wp2_with fail
        generalize hwb : ((w5.setCell _ _).setCell _ _).setCell _ _ = w2
        replace H := HS.eqW hwb (H.putAll (i := 1) rfl (vs := [.slice none 0 0, .slice none 0 0, .int .i64 0]) rfl rfl)
        simp only [List.nil_append, List.cons_append, List.append_assoc, List.set_cons_succ, List.set_cons_zero] at H
        clear hwb
        try clear C
        try clear w5
        have C := H.cells
        try simp only [cellsOf, cellsM, apartOf, apartM, and_true] at C
        refine bodyPost_ret (by simp [results, Try.results17, go_sem, C]; try rfl) rfl ?_
        exact givesPl_nil H.done
      · skip
        go_wp2_with fail
        generalize hwb : ((w5.setCell _ _).setCell _ _).setCell _ _ = w3
        replace H := HS.eqW hwb (H.putAll (i := 1) rfl (vs := [.slice none 0 0, .slice none 0 0, .int .i64 0]) rfl rfl)
        simp only [List.nil_append, List.cons_append, List.append_assoc, List.set_cons_succ, List.set_cons_zero] at H
        clear hwb
        try clear C
        try clear w5
        have C := H.cells
        try simp only [cellsOf, cellsM, apartOf, apartM, and_true] at C
        refine bodyPost_ret (by simp [results, Try.results17, go_sem, C]; try rfl) rfl ?_
        exact givesPl_nil H.done
    · skip
      go_wp2_with fail
      generalize hwb : ((w5.setCell _ _).setCell _ _).setCell _ _ = w4
      replace H := HS.eqW hwb (H.putAll (i := 1) rfl (vs := [.slice none 0 0, .slice none 0 0, .int .i64 0]) rfl rfl)
      simp only [List.nil_append, List.cons_append, List.append_assoc, List.set_cons_succ, List.set_cons_zero] at H
      clear hwb
      try clear C
      try clear w5
      have C := H.cells
      try simp only [cellsOf, cellsM, apartOf, apartM, and_true] at C
      refine bodyPost_ret (by simp [results, Try.results17, go_sem, C]; try rfl) rfl ?_
      exact givesPl_nil H.done
  · skip
    go_wp2_with fail
    generalize hwb : ((w5.setCell _ _).setCell _ _).setCell _ _ = w5
    replace H := HS.eqW hwb (H.putAll (i := 1) rfl (vs := [.slice none 0 0, .slice none 0 0, .int .i64 0]) rfl rfl)
    simp only [List.nil_append, List.cons_append, List.append_assoc, List.set_cons_succ, List.set_cons_zero] at H
    clear hwb
    try clear C
    try clear w5
    have C := H.cells
    try simp only [cellsOf, cellsM, apartOf, apartM, and_true] at C
    refine bodyPost_ret (by simp [results, Try.results17, go_sem, C]; try rfl) rfl ?_
    exact givesPl_nil H.done
set_option maxHeartbeats 64000000 in
theorem rBest_ok (a0 a1 a2 a3 a4 a5 : Int) {sa : Option Addr} (c : Nat) {l : List Nd} (hx : l.length ≤ 100000) (hcap : l.length ≤ c) (a b : Int) (hv : validN ⟨a0, a1, a2, a3, a4, a5⟩ l) (hfa : 0 ≤ a ∧ a ≤ 12) (hfb : 0 ≤ b ∧ b ≤ 12) (w : World) (hl : Lies w w.heap.size sa 7 l.length (fun j => ndC l[j]!)) :
    Calls Try.prog 17 #[v6 a0 a1 a2 a3 a4 a5, .slice sa l.length c, .int .i64 a, .int .i64 b] w (GivesPl (bestP l a b) 0 w) := by
  have hvd := decide_eq_true hv
  have hl12 : l.length ≤ 12 := hv.2.1
  have HOK := Lib.hid hv.loss
  have HFA := Lib.hid hfa
  have HFB := Lib.hid hfb
  clear hv
  have HL := Lib.hid hl
  clear hl
  go_enter Try.func17, Try.ntmps17
  have H := HS.start NoD w
  have HVA := Lib.hid (fun wx hx9 => rvalidN_any a0 a1 a2 a3 a4 a5 (sa := sa) c hx hcap wx hx9)
  go_upto_region 1 with fail
  generalize hwb : (w.alloc _).alloc _ = w1
  replace H := HS.eqW hwb H.alloc.alloc
  try simp only [World.size_alloc, List.nil_append, List.cons_append, List.append_assoc] at H
  clear hwb
  generalize w.heap.size + 1 = bO at H ⊢
  generalize w.heap.size = bS at H ⊢
  try clear C
  have C := H.cells
  try simp only [cellsOf, cellsM, apartOf, apartM, and_true] at C
  go_wp2_with fail
  refine (HVA.out _ (H.liesUp HL.out)).mono ?_
  rintro _ w5 ⟨rfl, hb⟩
  replace H := H.below hb
  clear hb HVA
  rw [hvd]
  clear hvd
  skip
  try clear C
  try simp only [World.size_alloc, List.nil_append, List.cons_append, List.append_assoc] at H
  have C := H.cells
  try simp only [cellsOf, cellsM, apartOf, apartM, and_true] at C
  dsimp only
  go_upto_region 6 with fail
  clear hfa hfb
  have hnr := H.nilRow 39 6
  clear H
  have H := hnr
  clear hnr
  try simp only [List.nil_append, List.cons_append] at H
  try clear C
  try simp only [World.size_alloc, List.nil_append, List.cons_append, List.append_assoc] at H
  have C := H.cells
  try simp only [cellsOf, cellsM, apartOf, apartM, and_true] at C
  go_wp2_with fail
  go_loopw [10, 46] (fun u j wr => ∃ (k : Nat) (xs : List P6), j = .int .i64 k ∧ k ≤ l.length ∧ Hid (xs = (l.take k).foldl (fun acc x => insR (rankP x.p) acc) []) ∧ (xs = [] → u = .slice none 0 0) ∧ HS NoD w [.blk bS #[.int .i64 a0, .int .i64 a1, .int .i64 a2, .int .i64 a3, .int .i64 a4, .int .i64 a5] 28, .blk bO #[.slice none 0 0, .slice none 0 0, .int .i64 0] 35, .row u 39 6 xs.length (xs.flatMap pC)] wr) (fun _ j _ => l.length - (intOf j).toNat)
  case atStart => exact ⟨0, [], rfl, Nat.zero_le _, (show Hid _ from rfl), fun _ => rfl, H⟩
  case round =>
    clear H C
    obtain ⟨k, xs, rfl, hk, HX, hu, H⟩ := hrel
    skip
    try clear C
    try simp only [World.size_alloc, List.nil_append, List.cons_append, List.append_assoc] at H
    have C := H.cells
    try simp only [cellsOf, cellsM, apartOf, apartM, and_true] at C
    by_cases hlt : k < l.length
    · have hki : (k : Int) < l.length := by omega
      have hxl : xs.length ≤ 12 := by rw [HX.out]; have := allR_len (l.take k); unfold allR at this; rw [List.length_take] at this; omega
      have HU := Lib.hid hu
      have HX12 := Lib.hid hxl
      clear hu
      obtain ⟨b, o, rfl, hb, hc⟩ := (H.lies HL.out).at hlt
      obtain ⟨q, hq⟩ : ∃ q, q = l[k]! := ⟨_, rfl⟩
      rw [← hq] at hc
      have HQ := Lib.hid hq
      clear hq
      have HSTEP := Lib.hid (fold_take hlt)
      rw [← HQ.out] at HSTEP
      have HRP := Lib.hid (fun W => rrank_any q.p W)
      obtain ⟨⟨p0, p1, p2, p3, p4, p5⟩, pl⟩ := q
      have c0 : wr.cell? ⟨b, o + k * 7, none⟩ = some (.int .i64 p0) := hc 0 _ rfl
      have c1 : wr.cell? ⟨b, o + k * 7 + 1, none⟩ = some (.int .i64 p1) := hc 1 _ rfl
      have c2 : wr.cell? ⟨b, o + k * 7 + 2, none⟩ = some (.int .i64 p2) := hc 2 _ rfl
      have c3 : wr.cell? ⟨b, o + k * 7 + 3, none⟩ = some (.int .i64 p3) := hc 3 _ rfl
      have c4 : wr.cell? ⟨b, o + k * 7 + 4, none⟩ = some (.int .i64 p4) := hc 4 _ rfl
      have c5 : wr.cell? ⟨b, o + k * 7 + 5, none⟩ = some (.int .i64 p5) := hc 5 _ rfl
      have c6 : wr.cell? ⟨b, o + k * 7 + 6, none⟩ = some (.int .i64 pl) := hc 6 _ rfl
      clear hc hb
      dsimp only at HRP HSTEP
      generalize rankP ⟨p0, p1, p2, p3, p4, p5⟩ = r at HRP HSTEP
      replace HRP := Lib.hid (show ∀ W, Calls Try.prog 34 #[v6 p0 p1 p2 p3 p4 p5] W (Gives (v6 r.a r.b r.c r.d r.e r.f) W) from HRP.out)
      go_upto_region 9 with fail
      clear c0 c1 c2 c3 c4 c5 c6
      generalize hwb : wr.alloc _ = w2
      replace H := HS.eqW hwb H.alloc
      try simp only [World.size_alloc, List.nil_append, List.cons_append, List.append_assoc] at H
      clear hwb
      generalize wr.heap.size = bN at H ⊢
      try clear C
      try clear wr
      have C := H.cells
      try simp only [cellsOf, cellsM, apartOf, apartM, and_true] at C
      go_wp2_with fail
      refine (HRP.out _).mono ?_
      rintro _ wc ⟨rfl, hb⟩
      replace H := H.below hb
      clear hb
      skip
      try clear C
      try simp only [World.size_alloc, List.nil_append, List.cons_append, List.append_assoc] at H
      have C := H.cells
      try simp only [cellsOf, cellsM, apartOf, apartM, and_true] at C
      go_upto_region 10 with fail
      generalize hwb : wc.alloc _ = w3
      replace H := HS.eqW hwb H.alloc
      try simp only [World.size_alloc, List.nil_append, List.cons_append, List.append_assoc] at H
      clear hwb
      generalize wc.heap.size = bR at H ⊢
      try clear C
      try clear wc
      have C := H.cells
      try simp only [cellsOf, cellsM, apartOf, apartM, and_true] at C
      go_wp2_with fail
      go_loopw [14] (fun ii wr => ∃ (i : Nat), ii = .int .i64 i ∧ i ≤ xs.length ∧ Hid (∀ j, j < i → befP xs[j]! r = true) ∧ HS NoD w [.blk bS #[.int .i64 a0, .int .i64 a1, .int .i64 a2, .int .i64 a3, .int .i64 a4, .int .i64 a5] 28, .blk bO #[.slice none 0 0, .slice none 0 0, .int .i64 0] 35, .row u10 39 6 xs.length (xs.flatMap pC), .blk bN #[.int .i64 p0, .int .i64 p1, .int .i64 p2, .int .i64 p3, .int .i64 p4, .int .i64 p5, .int .i64 pl] 41, .blk bR #[.int .i64 r.a, .int .i64 r.b, .int .i64 r.c, .int .i64 r.d, .int .i64 r.e, .int .i64 r.f] 39] wr) (fun ii _ => xs.length - (intOf ii).toNat)
      case atStart => exact ⟨0, rfl, Nat.zero_le _, (show Hid _ from fun j hj => absurd hj (Nat.not_lt_zero _)), H⟩
      case round =>
        clear H C
        obtain ⟨i, rfl, hi, HB, H⟩ := hrel
        skip
        try clear C
        try simp only [World.size_alloc, List.nil_append, List.cons_append, List.append_assoc] at H
        have C := H.cells
        try simp only [cellsOf, cellsM, apartOf, apartM, and_true] at C
        have HI := Lib.hid hi
        by_cases hlt2 : i < xs.length
        · obtain ⟨g, c9, hv, -, -⟩ := World.ownsRow.form (H.at 2 rfl) (by omega)
          subst hv
          have hii : (i : Int) < xs.length := by omega
          have HL2 := Lib.hid hlt2
          have hii2 : ¬ i = xs.length := by omega
          have hiib : ((i : Int) == xs.length) = false := beq_eq_false_iff_ne.2 (by omega)
          have hcap9 : xs.length ≤ c9 := (row_capOk (H.at 2 rfl)).1
          have HCE := Lib.hid (fun (wx : World) (hx : HS NoD w [.blk bS #[.int .i64 a0, .int .i64 a1, .int .i64 a2, .int .i64 a3, .int .i64 a4, .int .i64 a5] 28, .blk bO #[.slice none 0 0, .slice none 0 0, .int .i64 0] 35, .row (.slice (some ⟨g, 0, none⟩) xs.length c9) 39 6 xs.length (xs.flatMap pC), .blk bN #[.int .i64 p0, .int .i64 p1, .int .i64 p2, .int .i64 p3, .int .i64 p4, .int .i64 p5, .int .i64 pl] 41, .blk bR #[.int .i64 r.a, .int .i64 r.b, .int .i64 r.c, .int .i64 r.d, .int .i64 r.e, .int .i64 r.f] 39] wx) => show (∀ m u, (pC xs[i]!)[m]? = some u → wx.cell? ⟨g, i * 6 + m, none⟩ = some u) ∧ g < wx.heap.size from
            ⟨fun m u hu => (hx.rowCells 2 rfl (i * 6 + m) (by have : m < 6 := (List.getElem?_eq_some_iff.1 hu).1; omega)).1.trans (flat_get pC_len xs i m u hlt2 hu), Item.lt (hx.at 2 rfl) (k := g) rfl⟩)
          have HBF := Lib.hid (fun W => rbefore_any xs[i]! r W)
          have HNQ := Lib.hid (fun W => neqP xs[i]! r W)
          obtain ⟨x, hxx⟩ : ∃ x, x = xs[i]! := ⟨_, rfl⟩
          rw [← hxx] at HCE HBF HNQ
          have HXI := Lib.hid hxx
          clear hxx
          generalize hbt : befP x r = t at HBF
          have HBT := Lib.hid hbt
          clear hbt
          obtain ⟨x0, x1, x2, x3, x4, x5⟩ := x
          replace HBF := Lib.hid (show ∀ W, Calls Try.prog 35 #[v6 x0 x1 x2 x3 x4 x5, v6 r.a r.b r.c r.d r.e r.f] W (Gives (.bool t) W) from HBF.out)
          go_upto_region 11 with fail
          refine wp_region_xH (by kernel_rfl) (by kernel_rfl) (by kernel_rfl) (by kernel_rfl) (fun _ => False) (H) ?_
          clear H; intro w4 H hz0 hs0
          try clear C
          try simp only [World.size_alloc, List.nil_append, List.cons_append, List.append_assoc] at H hz0
          clear hz0
          try clear wr
          have C := H.cells
          try simp only [cellsOf, cellsM, apartOf, apartM, and_true] at C
          have Z := H.zs
          try simp only [ltsOf, ltsM, and_true] at Z
          have hz0 := Nat.le_refl w4.heap.size
          obtain ⟨hd, hgz⟩ := HCE.out _ H
          have d0 : w4.cell? ⟨g, i * 6, none⟩ = some (.int .i64 x0) := hd 0 _ rfl
          have d1 : w4.cell? ⟨g, i * 6 + 1, none⟩ = some (.int .i64 x1) := hd 1 _ rfl
          have d2 : w4.cell? ⟨g, i * 6 + 2, none⟩ = some (.int .i64 x2) := hd 2 _ rfl
          have d3 : w4.cell? ⟨g, i * 6 + 3, none⟩ = some (.int .i64 x3) := hd 3 _ rfl
          have d4 : w4.cell? ⟨g, i * 6 + 4, none⟩ = some (.int .i64 x4) := hd 4 _ rfl
          have d5 : w4.cell? ⟨g, i * 6 + 5, none⟩ = some (.int .i64 x5) := hd 5 _ rfl
          clear hd
          repeat (first | (refine wpX_skip rfl ?_; go_simp) | (refine wpX_free rfl rfl rfl (fun K hK => ?_); go_step; refine hK _ _ ?_; clear hK K) | (refine wpX_load rfl rfl rfl (by simp [Stay, OneD, NoD, *]) hs0 (by simp [*]) (fun K hK => ?_); go_step; refine hK _ _ ?_; clear hK K))
          refine wpX_eff rfl rfl (fun _ _ => ?_)
          go_step
          refine (HBF.out _).mono ?_
          rintro _ w5 ⟨rfl, hb⟩
          replace hs0 := hs0.belowS hz0 hb
          replace hz0 := Nat.le_trans hz0 hb.size
          replace H := H.below hb
          clear hb
          try clear C
          have C := H.cells
          try simp only [cellsOf, cellsM, apartOf, apartM, and_true] at C
          try clear w4
          dsimp only
          go_step
          refine ⟨hs0, ?_⟩
          repeat (first | (refine wpX_skip rfl ?_; go_simp) | (refine wpX_free rfl rfl rfl (fun K hK => ?_); go_step; refine hK _ _ ?_; clear hK K) | (refine wpX_load rfl rfl rfl (by simp [Stay, OneD, NoD, *]) hs0 (by simp [*]) (fun K hK => ?_); go_step; refine hK _ _ ?_; clear hK K))
          (refine wpX_nil ?_; go_step)
          clear d0 d1 d2 d3 d4 d5 hgz
          skip
          cases t with
          | true =>
            go_wp2_with fail
            go_roundw
            case rel =>
              refine ⟨i + 1, by go_num, by omega, (show Hid _ from fun j hj => ?_), H⟩
              by_cases e : j = i
              · subst e; rw [← HXI.out]; exact HBT.out
              · exact HB.out j (by omega)
            case measure => simp [intOf]; omega
          | false =>
            skip
            have hne := HNQ.out
            by_cases he : (⟨x0, x1, x2, x3, x4, x5⟩ : P6) = r
            · rw [decide_eq_true he] at hne
              have HINS := Lib.hid (show insR r xs = xs from by rw [insR_at HB.out HI.out (.inr (by rw [← HXI.out]; exact HBT.out)), if_neg (by rw [← HXI.out]; intro h; rcases h with h | h; exact absurd h hii2; exact h he)])
              clear he
              go_upto_region 13 with fail
              refine wp_region_xH (by kernel_rfl) (by kernel_rfl) (by kernel_rfl) (by kernel_rfl) (fun _ => False) (H) ?_
              clear H; intro w6 H hz0 hs0
              try clear C
              try simp only [World.size_alloc, List.nil_append, List.cons_append, List.append_assoc] at H hz0
              clear hz0
              try clear w5
              have C := H.cells
              try simp only [cellsOf, cellsM, apartOf, apartM, and_true] at C
              have Z := H.zs
              try simp only [ltsOf, ltsM, and_true] at Z
              have hz0 := Nat.le_refl w6.heap.size
              obtain ⟨hd, hgz⟩ := HCE.out _ H
              have d0 : w6.cell? ⟨g, i * 6, none⟩ = some (.int .i64 x0) := hd 0 _ rfl
              have d1 : w6.cell? ⟨g, i * 6 + 1, none⟩ = some (.int .i64 x1) := hd 1 _ rfl
              have d2 : w6.cell? ⟨g, i * 6 + 2, none⟩ = some (.int .i64 x2) := hd 2 _ rfl
              have d3 : w6.cell? ⟨g, i * 6 + 3, none⟩ = some (.int .i64 x3) := hd 3 _ rfl
              have d4 : w6.cell? ⟨g, i * 6 + 4, none⟩ = some (.int .i64 x4) := hd 4 _ rfl
              have d5 : w6.cell? ⟨g, i * 6 + 5, none⟩ = some (.int .i64 x5) := hd 5 _ rfl
              clear hd
              simp only [kP] at hne
              repeat (first | (refine wpX_skip rfl ?_; go_simp) | (refine wpX_free rfl rfl rfl (fun K hK => ?_); go_step; refine hK _ _ ?_; clear hK K) | (refine wpX_load rfl rfl rfl (by simp [Stay, OneD, NoD, *]) hs0 (by simp [*]) (fun K hK => ?_); go_step; refine hK _ _ ?_; clear hK K))
              (refine wpX_yield rfl rfl ((.bool false)) (fun w hw => by go_simp) ?_; go_simp)
              repeat (first | (refine wpX_skip rfl ?_; go_simp) | (refine wpX_free rfl rfl rfl (fun K hK => ?_); go_step; refine hK _ _ ?_; clear hK K) | (refine wpX_load rfl rfl rfl (by simp [Stay, OneD, NoD, *]) hs0 (by simp [*]) (fun K hK => ?_); go_step; refine hK _ _ ?_; clear hK K))
              (refine wpX_nil ?_; go_step)
              go_wp2_with fail
              go_roundw
              case rel => exact ⟨k + 1, xs, by go_num, by omega, (show Hid _ from by rw [HSTEP.out, ← HX.out, HINS.out]; trivial), fun h => by have h9 := HL2.out; rw [h] at h9; exact absurd h9 (Nat.not_lt_zero _), H.less (by repeat (first | exact .slnil | refine .cons_cons _ ?_ | refine .cons _ ?_))⟩
              case measure => simp [intOf]; omega
            · rw [decide_eq_false he] at hne
              have HINS := Lib.hid (show insR r xs = xs.take i ++ r :: xs.drop i from by rw [insR_at HB.out HI.out (.inr (by rw [← HXI.out]; exact HBT.out)), if_pos (.inr (by rw [← HXI.out]; exact he))])
              clear he
              go_upto_region 13 with fail
              refine wp_region_xH (by kernel_rfl) (by kernel_rfl) (by kernel_rfl) (by kernel_rfl) (fun _ => False) (H) ?_
              clear H; intro w7 H hz0 hs0
              try clear C
              try simp only [World.size_alloc, List.nil_append, List.cons_append, List.append_assoc] at H hz0
              clear hz0
              try clear w6
              have C := H.cells
              try simp only [cellsOf, cellsM, apartOf, apartM, and_true] at C
              have Z := H.zs
              try simp only [ltsOf, ltsM, and_true] at Z
              have hz0 := Nat.le_refl w7.heap.size
              obtain ⟨hd, hgz⟩ := HCE.out _ H
              have d0 : w7.cell? ⟨g, i * 6, none⟩ = some (.int .i64 x0) := hd 0 _ rfl
              have d1 : w7.cell? ⟨g, i * 6 + 1, none⟩ = some (.int .i64 x1) := hd 1 _ rfl
              have d2 : w7.cell? ⟨g, i * 6 + 2, none⟩ = some (.int .i64 x2) := hd 2 _ rfl
              have d3 : w7.cell? ⟨g, i * 6 + 3, none⟩ = some (.int .i64 x3) := hd 3 _ rfl
              have d4 : w7.cell? ⟨g, i * 6 + 4, none⟩ = some (.int .i64 x4) := hd 4 _ rfl
              have d5 : w7.cell? ⟨g, i * 6 + 5, none⟩ = some (.int .i64 x5) := hd 5 _ rfl
              clear hd
              simp only [kP] at hne
              repeat (first | (refine wpX_skip rfl ?_; go_simp) | (refine wpX_free rfl rfl rfl (fun K hK => ?_); go_step; refine hK _ _ ?_; clear hK K) | (refine wpX_load rfl rfl rfl (by simp [Stay, OneD, NoD, *]) hs0 (by simp [*]) (fun K hK => ?_); go_step; refine hK _ _ ?_; clear hK K))
              (refine wpX_yield rfl rfl ((.bool true)) (fun w hw => by go_simp) ?_; go_simp)
              repeat (first | (refine wpX_skip rfl ?_; go_simp) | (refine wpX_free rfl rfl rfl (fun K hK => ?_); go_step; refine hK _ _ ?_; clear hK K) | (refine wpX_load rfl rfl rfl (by simp [Stay, OneD, NoD, *]) hs0 (by simp [*]) (fun K hK => ?_); go_step; refine hK _ _ ?_; clear hK K))
              (refine wpX_nil ?_; go_step)
              clear d0 d1 d2 d3 d4 d5 hgz hne
              obtain ⟨ad9, had1, had2⟩ : ∃ ad9 : Addr, (if c9 = i then some ⟨g, 0, none⟩ else some ⟨g, i * 6, none⟩ : Option Addr) = some ad9 ∧ (0 < xs.length - i → ad9 = ⟨g, i * 6, none⟩) := by
                by_cases e : c9 = i
                · rw [if_pos e]; exact ⟨_, rfl, fun h => by omega⟩
                · rw [if_neg e]; exact ⟨_, rfl, fun h => rfl⟩
              have HAD := Lib.hid had2
              have hic : (i : Int) ≤ c9 := by omega
              have hil : (i : Int) ≤ xs.length := by omega
              clear had2
              have hnr := H.nilRow 39 6
              clear H C
              have H := hnr
              clear hnr
              try simp only [List.nil_append, List.cons_append] at H
              try clear C
              try simp only [World.size_alloc, List.nil_append, List.cons_append, List.append_assoc] at H
              have C := H.cells
              try simp only [cellsOf, cellsM, apartOf, apartM, and_true] at C
              go_upto_region 14 with fail
              refine wp_region_h (by kernel_rfl) [0, 1, 2, 3, 4, 5, 6, 7, 8, 9, 10, 11] (by kernel_rfl) (by kernel_rfl) (by kernel_rfl) (fun _ => False) (H) ?_
              clear H; intro w8 H hz0
              try clear C
              try simp only [World.size_alloc, List.nil_append, List.cons_append, List.append_assoc] at H hz0 ⊢
              clear hz0
              try clear w7
              have C := H.cells
              try simp only [cellsOf, cellsM, apartOf, apartM, and_true] at C
              have Z := H.zs
              try simp only [ltsOf, ltsM, and_true] at Z
              simp only [List.filterMap_cons, List.filterMap_nil, List.getElem?_toArray, List.getElem?_cons_zero, List.getElem?_cons_succ]
              (refine wpH_free rfl rfl rfl (fun _ _ => ?_); go_step; go_step)
              (refine wpH_free rfl rfl rfl (fun _ _ => ?_); go_step; go_step)
              (refine wpH_yield rfl rfl (.slice (some ⟨g, 0, none⟩) i c9 ) (fun w _ => by  (go_simp)) ?_; go_simp)
              refine wpH_append rfl (.const (.slice none 0 0)) (.tmp 81) 33 rfl elemPl 5 rfl rfl (by simp [Value.ownBlock]) (fun _ h => h.1) rfl (fun w hc => srcTakeP (hc.hs.at 2 rfl) HI.out) (by rw [flat_len pC_len, List.length_take, Nat.min_eq_left HI.out]) (pC_one _) (by have := HI.out; have := HX12.out; unfold maxLen; omega) (by have := HI.out; have := HX12.out; omega) (N := i) (by omega) (fun s4 c4 hs4 => ?_)
              (refine wpH_load rfl rfl rfl (by simp [Stay, OneD, NoD, *]) (by simp [*]) (fun _ _ => ?_); go_step; go_step)
              (refine wpH_lit rfl rfl #[.int .i64 r.a, .int .i64 r.b, .int .i64 r.c, .int .i64 r.d, .int .i64 r.e, .int .i64 r.f]   39 1 (fun w => by kernel_rfl) (fun bQ hbQ nbQ _ _ => ?_); go_simp; go_step)
              refine wpH_append rfl (.tmp 82) (.tmp 84) 33 rfl elemPl 5 rfl rfl hs4 (fun _ h => h.1) rfl (news := [r].flatMap pC) (fun w hc => src_lit (Fl.at _ _ _) hc) rfl (pC_one _) (by have := HI.out; have := HX12.out; unfold maxLen; omega) (by have := HI.out; have := HX12.out; omega) (N := i + 1) (by omega) (fun s4 c4 hs5 => ?_)
              clear hs4
              (refine wpH_free rfl rfl rfl (fun _ _ => ?_); go_step; go_step)
              (refine wpH_free rfl rfl rfl (fun _ _ => ?_); go_step; go_step)
              (refine wpH_yield rfl rfl (.slice (some ad9) (xs.length - i : Nat) (c9 - i : Nat) ) (fun w _ => by  (go_simp)) ?_; go_simp)
              refine wpH_append rfl (.tmp 85) (.tmp 88) 33 rfl elemPl 5 rfl rfl hs5 (fun _ h => h.1) rfl (fun w hc => srcDropP (hc.hs.at 2 rfl) HI.out HAD.out) (by rw [flat_len pC_len, List.length_drop]) (pC_one _) (by have := HI.out; have := HX12.out; unfold maxLen; omega) (by have := HI.out; have := HX12.out; omega) (N := xs.length + 1) (by have := HI.out; omega) (fun s4 c4 hs6 => ?_)
              clear hs5 hs6
              (refine wpH_free rfl rfl rfl (fun _ _ => ?_); go_step; go_step)
              refine wpH_nil ?_
              intro w9 hC
              replace H := hC.hs
              clear hC
              try clear C
              try clear Z
              try simp only [List.nil_append, List.cons_append, List.append_assoc, List.set_cons_succ, List.set_cons_zero] at H
              try clear w8
              have C := H.cells
              try simp only [cellsOf, cellsM, apartOf, apartM, and_true] at C
              go_wp2_with fail
              go_roundw
              case rel =>
                refine ⟨k + 1, xs.take i ++ r :: xs.drop i, by go_num, by omega, (show Hid _ from by rw [HSTEP.out, ← HX.out, HINS.out]; trivial), fun h => absurd h (by simp), ?_⟩
                have H9 := HS.less (L' := [.blk bS #[.int .i64 a0, .int .i64 a1, .int .i64 a2, .int .i64 a3, .int .i64 a4, .int .i64 a5] 28, .blk bO #[.slice none 0 0, .slice none 0 0, .int .i64 0] 35, .row (.slice s4 (xs.length + 1) c4) 39 6 (xs.length + 1) _]) H (by repeat (first | exact .slnil | refine .cons_cons _ ?_ | refine .cons _ ?_))
                have e1 : (xs.take i ++ r :: xs.drop i).length = xs.length + 1 := by have := HI.out; simp; omega
                have e2 : (xs.take i ++ r :: xs.drop i).flatMap pC = (xs.take i).flatMap pC ++ [r].flatMap pC ++ (xs.drop i).flatMap pC := by simp
                rw [e1, e2]
                simpa using H9
              case measure => simp [intOf]; omega
        · skip
          have hil0 : i = xs.length := by omega
          have hib : ((i : Int) == xs.length) = true := beq_iff_eq.2 (by omega)
          have HINS := Lib.hid (show insR r xs = xs.take i ++ r :: xs.drop i from by rw [insR_at HB.out HI.out (.inl hil0), if_pos (.inl hil0)])
          by_cases hx0 : xs = []
          · subst hx0
            obtain rfl : i = 0 := by simpa using hil0
            have hu := HU.out rfl
            subst hu
            clear hil0 HINS
            have H0 := H
            simp only [List.length_nil] at H0
            clear H
            have H := H0
            clear H0
            simp only [List.length_nil] at *
            go_upto_region 11 with fail
            refine wp_region_xH (by kernel_rfl) (by kernel_rfl) (by kernel_rfl) (by kernel_rfl) (fun _ => False) (H) ?_
            clear H; intro w10 H hz0 hs0
            try clear C
            try simp only [World.size_alloc, List.nil_append, List.cons_append, List.append_assoc] at H hz0
            clear hz0
            try clear wr
            have C := H.cells
            try simp only [cellsOf, cellsM, apartOf, apartM, and_true] at C
            have Z := H.zs
            try simp only [ltsOf, ltsM, and_true] at Z
            have hz0 := Nat.le_refl w10.heap.size
            repeat (first | (refine wpX_skip rfl ?_; go_simp) | (refine wpX_free rfl rfl rfl (fun K hK => ?_); go_step; refine hK _ _ ?_; clear hK K) | (refine wpX_load rfl rfl rfl (by simp [Stay, OneD, NoD, *]) hs0 (by simp [*]) (fun K hK => ?_); go_step; refine hK _ _ ?_; clear hK K))
            (refine wpX_nil ?_; go_step)
            go_upto_region 13 with fail
            refine wp_region_xH (by kernel_rfl) (by kernel_rfl) (by kernel_rfl) (by kernel_rfl) (fun _ => False) (H) ?_
            clear H; intro w11 H hz0 hs0
            try clear C
            try simp only [World.size_alloc, List.nil_append, List.cons_append, List.append_assoc] at H hz0
            clear hz0
            try clear w10
            have C := H.cells
            try simp only [cellsOf, cellsM, apartOf, apartM, and_true] at C
            have Z := H.zs
            try simp only [ltsOf, ltsM, and_true] at Z
            have hz0 := Nat.le_refl w11.heap.size
            repeat (first | (refine wpX_skip rfl ?_; go_simp) | (refine wpX_free rfl rfl rfl (fun K hK => ?_); go_step; refine hK _ _ ?_; clear hK K) | (refine wpX_load rfl rfl rfl (by simp [Stay, OneD, NoD, *]) hs0 (by simp [*]) (fun K hK => ?_); go_step; refine hK _ _ ?_; clear hK K))
            (refine wpX_nil ?_; go_step)
            have hnr := H.nilRow 39 6
            clear H C
            have H := hnr
            clear hnr
            try simp only [List.nil_append, List.cons_append] at H
            try clear C
            try simp only [World.size_alloc, List.nil_append, List.cons_append, List.append_assoc] at H
            have C := H.cells
            try simp only [cellsOf, cellsM, apartOf, apartM, and_true] at C
            go_upto_region 14 with fail
            refine wp_region_h (by kernel_rfl) [0, 1, 2, 3, 4, 5, 6, 7, 8, 9, 10, 11] (by kernel_rfl) (by kernel_rfl) (by kernel_rfl) (fun _ => False) (H) ?_
            clear H; intro w12 H hz0
            try clear C
            try simp only [World.size_alloc, List.nil_append, List.cons_append, List.append_assoc] at H hz0 ⊢
            clear hz0
            try clear w11
            have C := H.cells
            try simp only [cellsOf, cellsM, apartOf, apartM, and_true] at C
            have Z := H.zs
            try simp only [ltsOf, ltsM, and_true] at Z
            simp only [List.filterMap_cons, List.filterMap_nil, List.getElem?_toArray, List.getElem?_cons_zero, List.getElem?_cons_succ]
            (refine wpH_free rfl rfl rfl (fun _ _ => ?_); go_step; go_step)
            (refine wpH_free rfl rfl rfl (fun _ _ => ?_); go_step; go_step)
            (refine wpH_yield rfl rfl (.slice none 0 0 ) (fun w _ => by  (go_simp)) ?_; go_simp)
            refine wpH_append rfl (.const (.slice none 0 0)) (.tmp 81) 33 rfl elemPl 5 rfl rfl (by simp [Value.ownBlock]) (fun _ h => h.1) rfl (fun w hc => (.inl ⟨rfl, rfl, rfl⟩ : SrcOk w none 0 0 ([] : List Value))) rfl (by simp) (by unfold maxLen; omega) (by omega) (N := 0) (by omega) (fun s4 c4 hs4 => ?_)
            (refine wpH_load rfl rfl rfl (by simp [Stay, OneD, NoD, *]) (by simp [*]) (fun _ _ => ?_); go_step; go_step)
            (refine wpH_lit rfl rfl #[.int .i64 r.a, .int .i64 r.b, .int .i64 r.c, .int .i64 r.d, .int .i64 r.e, .int .i64 r.f]   39 1 (fun w => by kernel_rfl) (fun bQ hbQ nbQ _ _ => ?_); go_simp; go_step)
            refine wpH_append rfl (.tmp 82) (.tmp 84) 33 rfl elemPl 5 rfl rfl hs4 (fun _ h => h.1) rfl (news := [r].flatMap pC) (fun w hc => src_lit (Fl.at _ _ _) hc) rfl (pC_one _) (by unfold maxLen; omega) (by omega) (N := 1) (by omega) (fun s4 c4 hs5 => ?_)
            clear hs4
            (refine wpH_free rfl rfl rfl (fun _ _ => ?_); go_step; go_step)
            (refine wpH_free rfl rfl rfl (fun _ _ => ?_); go_step; go_step)
            (refine wpH_yield rfl rfl (.slice none 0 0 ) (fun w _ => by  (go_simp)) ?_; go_simp)
            refine wpH_append rfl (.tmp 85) (.tmp 88) 33 rfl elemPl 5 rfl rfl hs5 (fun _ h => h.1) rfl (fun w hc => (.inl ⟨rfl, rfl, rfl⟩ : SrcOk w none 0 0 ([] : List Value))) rfl (by simp) (by unfold maxLen; omega) (by omega) (N := 1) (by omega) (fun s4 c4 hs6 => ?_)
            clear hs5 hs6
            (refine wpH_free rfl rfl rfl (fun _ _ => ?_); go_step; go_step)
            refine wpH_nil ?_
            intro w13 hC
            replace H := hC.hs
            clear hC
            try clear C
            try clear Z
            try simp only [List.nil_append, List.cons_append, List.append_assoc, List.set_cons_succ, List.set_cons_zero] at H
            try clear w12
            have C := H.cells
            try simp only [cellsOf, cellsM, apartOf, apartM, and_true] at C
            go_wp2_with fail
            go_roundw
            case rel =>
              refine ⟨k + 1, [r], by go_num, by omega, (show Hid _ from by rw [HSTEP.out, ← HX.out]; rfl), fun h => absurd h (by simp), ?_⟩
              have H9 := HS.less (L' := [.blk bS #[.int .i64 a0, .int .i64 a1, .int .i64 a2, .int .i64 a3, .int .i64 a4, .int .i64 a5] 28, .blk bO #[.slice none 0 0, .slice none 0 0, .int .i64 0] 35, .row (.slice s4 1 c4) 39 6 1 _]) H (by repeat (first | exact .slnil | refine .cons_cons _ ?_ | refine .cons _ ?_))
              simpa using H9
            case measure => simp [intOf]; omega
          · obtain ⟨g, c9, hv, -, -⟩ := World.ownsRow.form (H.at 2 rfl) (List.length_pos_iff.2 hx0)
            subst hv
            have hcap9 : xs.length ≤ c9 := (row_capOk (H.at 2 rfl)).1
            have hni : ¬ (i : Int) < xs.length := by omega
            clear hx0 hil0
            go_upto_region 11 with fail
            refine wp_region_xH (by kernel_rfl) (by kernel_rfl) (by kernel_rfl) (by kernel_rfl) (fun _ => False) (H) ?_
            clear H; intro w14 H hz0 hs0
            try clear C
            try simp only [World.size_alloc, List.nil_append, List.cons_append, List.append_assoc] at H hz0
            clear hz0
            try clear w13
            have C := H.cells
            try simp only [cellsOf, cellsM, apartOf, apartM, and_true] at C
            have Z := H.zs
            try simp only [ltsOf, ltsM, and_true] at Z
            have hz0 := Nat.le_refl w14.heap.size
            repeat (first | (refine wpX_skip rfl ?_; go_simp) | (refine wpX_free rfl rfl rfl (fun K hK => ?_); go_step; refine hK _ _ ?_; clear hK K) | (refine wpX_load rfl rfl rfl (by simp [Stay, OneD, NoD, *]) hs0 (by simp [*]) (fun K hK => ?_); go_step; refine hK _ _ ?_; clear hK K))
            (refine wpX_nil ?_; go_step)
            go_upto_region 13 with fail
            refine wp_region_xH (by kernel_rfl) (by kernel_rfl) (by kernel_rfl) (by kernel_rfl) (fun _ => False) (H) ?_
            clear H; intro w15 H hz0 hs0
            try clear C
            try simp only [World.size_alloc, List.nil_append, List.cons_append, List.append_assoc] at H hz0
            clear hz0
            try clear w14
            have C := H.cells
            try simp only [cellsOf, cellsM, apartOf, apartM, and_true] at C
            have Z := H.zs
            try simp only [ltsOf, ltsM, and_true] at Z
            have hz0 := Nat.le_refl w15.heap.size
            repeat (first | (refine wpX_skip rfl ?_; go_simp) | (refine wpX_free rfl rfl rfl (fun K hK => ?_); go_step; refine hK _ _ ?_; clear hK K) | (refine wpX_load rfl rfl rfl (by simp [Stay, OneD, NoD, *]) hs0 (by simp [*]) (fun K hK => ?_); go_step; refine hK _ _ ?_; clear hK K))
            (refine wpX_nil ?_; go_step)
            clear hib hni
            obtain ⟨ad9, had1, had2⟩ : ∃ ad9 : Addr, (if c9 = i then some ⟨g, 0, none⟩ else some ⟨g, i * 6, none⟩ : Option Addr) = some ad9 ∧ (0 < xs.length - i → ad9 = ⟨g, i * 6, none⟩) := by
              by_cases e : c9 = i
              · rw [if_pos e]; exact ⟨_, rfl, fun h => by omega⟩
              · rw [if_neg e]; exact ⟨_, rfl, fun h => rfl⟩
            have HAD := Lib.hid had2
            have hic : (i : Int) ≤ c9 := by omega
            have hil : (i : Int) ≤ xs.length := by omega
            clear had2
            have hnr := H.nilRow 39 6
            clear H C
            have H := hnr
            clear hnr
            try simp only [List.nil_append, List.cons_append] at H
            try clear C
            try simp only [World.size_alloc, List.nil_append, List.cons_append, List.append_assoc] at H
            have C := H.cells
            try simp only [cellsOf, cellsM, apartOf, apartM, and_true] at C
            go_upto_region 14 with fail
            refine wp_region_h (by kernel_rfl) [0, 1, 2, 3, 4, 5, 6, 7, 8, 9, 10, 11] (by kernel_rfl) (by kernel_rfl) (by kernel_rfl) (fun _ => False) (H) ?_
            clear H; intro w16 H hz0
            try clear C
            try simp only [World.size_alloc, List.nil_append, List.cons_append, List.append_assoc] at H hz0 ⊢
            clear hz0
            try clear w15
            have C := H.cells
            try simp only [cellsOf, cellsM, apartOf, apartM, and_true] at C
            have Z := H.zs
            try simp only [ltsOf, ltsM, and_true] at Z
            simp only [List.filterMap_cons, List.filterMap_nil, List.getElem?_toArray, List.getElem?_cons_zero, List.getElem?_cons_succ]
            (refine wpH_free rfl rfl rfl (fun _ _ => ?_); go_step; go_step)
            (refine wpH_free rfl rfl rfl (fun _ _ => ?_); go_step; go_step)
            (refine wpH_yield rfl rfl (.slice (some ⟨g, 0, none⟩) i c9 ) (fun w _ => by  (go_simp)) ?_; go_simp)
            refine wpH_append rfl (.const (.slice none 0 0)) (.tmp 81) 33 rfl elemPl 5 rfl rfl (by simp [Value.ownBlock]) (fun _ h => h.1) rfl (fun w hc => srcTakeP (hc.hs.at 2 rfl) HI.out) (by rw [flat_len pC_len, List.length_take, Nat.min_eq_left HI.out]) (pC_one _) (by have := HI.out; have := HX12.out; unfold maxLen; omega) (by have := HI.out; have := HX12.out; omega) (N := i) (by omega) (fun s4 c4 hs4 => ?_)
            (refine wpH_load rfl rfl rfl (by simp [Stay, OneD, NoD, *]) (by simp [*]) (fun _ _ => ?_); go_step; go_step)
            (refine wpH_lit rfl rfl #[.int .i64 r.a, .int .i64 r.b, .int .i64 r.c, .int .i64 r.d, .int .i64 r.e, .int .i64 r.f]   39 1 (fun w => by kernel_rfl) (fun bQ hbQ nbQ _ _ => ?_); go_simp; go_step)
            refine wpH_append rfl (.tmp 82) (.tmp 84) 33 rfl elemPl 5 rfl rfl hs4 (fun _ h => h.1) rfl (news := [r].flatMap pC) (fun w hc => src_lit (Fl.at _ _ _) hc) rfl (pC_one _) (by have := HI.out; have := HX12.out; unfold maxLen; omega) (by have := HI.out; have := HX12.out; omega) (N := i + 1) (by omega) (fun s4 c4 hs5 => ?_)
            clear hs4
            (refine wpH_free rfl rfl rfl (fun _ _ => ?_); go_step; go_step)
            (refine wpH_free rfl rfl rfl (fun _ _ => ?_); go_step; go_step)
            (refine wpH_yield rfl rfl (.slice (some ad9) (xs.length - i : Nat) (c9 - i : Nat) ) (fun w _ => by  (go_simp)) ?_; go_simp)
            refine wpH_append rfl (.tmp 85) (.tmp 88) 33 rfl elemPl 5 rfl rfl hs5 (fun _ h => h.1) rfl (fun w hc => srcDropP (hc.hs.at 2 rfl) HI.out HAD.out) (by rw [flat_len pC_len, List.length_drop]) (pC_one _) (by have := HI.out; have := HX12.out; unfold maxLen; omega) (by have := HI.out; have := HX12.out; omega) (N := xs.length + 1) (by have := HI.out; omega) (fun s4 c4 hs6 => ?_)
            clear hs5 hs6
            (refine wpH_free rfl rfl rfl (fun _ _ => ?_); go_step; go_step)
            refine wpH_nil ?_
            intro w17 hC
            replace H := hC.hs
            clear hC
            try clear C
            try clear Z
            try simp only [List.nil_append, List.cons_append, List.append_assoc, List.set_cons_succ, List.set_cons_zero] at H
            try clear w16
            have C := H.cells
            try simp only [cellsOf, cellsM, apartOf, apartM, and_true] at C
            go_wp2_with fail
            go_roundw
            case rel =>
              refine ⟨k + 1, xs.take i ++ r :: xs.drop i, by go_num, by omega, (show Hid _ from by rw [HSTEP.out, ← HX.out, HINS.out]; trivial), fun h => absurd h (by simp), ?_⟩
              have H9 := HS.less (L' := [.blk bS #[.int .i64 a0, .int .i64 a1, .int .i64 a2, .int .i64 a3, .int .i64 a4, .int .i64 a5] 28, .blk bO #[.slice none 0 0, .slice none 0 0, .int .i64 0] 35, .row (.slice s4 (xs.length + 1) c4) 39 6 (xs.length + 1) _]) H (by repeat (first | exact .slnil | refine .cons_cons _ ?_ | refine .cons _ ?_))
              have e1 : (xs.take i ++ r :: xs.drop i).length = xs.length + 1 := by have := HI.out; simp; omega
              have e2 : (xs.take i ++ r :: xs.drop i).flatMap pC = (xs.take i).flatMap pC ++ [r].flatMap pC ++ (xs.drop i).flatMap pC := by simp
              rw [e1, e2]
              simpa using H9
            case measure => simp [intOf]; omega
    · skip
      have hkl : k = l.length := by omega
      subst hkl
      obtain ⟨s5, c5, rfl⟩ := ownsRow_slice (H.at 2 rfl)
      have hxx := HX.out
      rw [List.take_length] at hxx
      have HALE := Lib.hid (show xs = allR l from hxx)
      have hall : xs.length ≤ 12 := by rw [HALE.out]; have := allR_len l; omega
      clear hxx HX hu
      generalize xs = al at H HALE hall ⊢
      go_upto_region 17 with fail
      generalize hwb : wr.alloc _ = w18
      replace H := HS.eqW hwb H.alloc
      try simp only [World.size_alloc, List.nil_append, List.cons_append, List.append_assoc] at H
      clear hwb
      generalize wr.heap.size = bT at H ⊢
      try clear C
      try clear wr
      have C := H.cells
      try simp only [cellsOf, cellsM, apartOf, apartM, and_true] at C
      have hnr := (H.nilRow 39 6).nilRow 3 1
      clear H
      have H := hnr
      clear hnr
      try simp only [List.nil_append, List.cons_append] at H
      try clear C
      try simp only [World.size_alloc, List.nil_append, List.cons_append, List.append_assoc] at H
      have C := H.cells
      try simp only [cellsOf, cellsM, apartOf, apartM, and_true] at C
      obtain ⟨N, hN⟩ : ∃ N : Nat, N = 2 ^ al.length := ⟨_, rfl⟩
      have hNb : 1 ≤ N ∧ N ≤ 4096 := by
        rw [hN]
        refine ⟨Nat.two_pow_pos _, ?_⟩
        have := Nat.pow_le_pow_right (n := 2) (by omega) hall
        omega
      have HN := Lib.hid hN
      clear hN
      have hali : (al.length : Int) < 64 := by omega
      have hw54 : IntKind.i64.wrap ((2 : Int) ^ al.length) = (N : Int) := by
        have h1 : ((2 : Int) ^ al.length) = (N : Int) := by rw [HN.out]; push_cast; rfl
        rw [h1]
        exact IntWalk.i64_in _ (by omega)
      have hw55 : wrap64 ((2 : Int) ^ al.length) = (N : Int) := by
        have h1 : ((2 : Int) ^ al.length) = (N : Int) := by rw [HN.out]; push_cast; rfl
        rw [h1]; unfold wrap64; omega
      go_wp2_with fail
      clear hw54 hw55 hali
      go_loopw [96] (fun ss wr => ∃ (n : Nat) (R : PlR) (sk : Option Addr) (ck : Nat) (sr : Option Addr) (cr : Nat), ss = .int .i64 n ∧ n ≤ N ∧ R.ranks.length ≤ 12 ∧ Hid (R = bestN al l a b n) ∧ HS NoD w [.blk bS #[.int .i64 a0, .int .i64 a1, .int .i64 a2, .int .i64 a3, .int .i64 a4, .int .i64 a5] 28, .blk bO #[.slice none 0 0, .slice none 0 0, .int .i64 0] 35, .row (.slice s5 al.length c5) 39 6 al.length (al.flatMap pC), .blk bT #[.slice sr R.rows.length cr, .slice sk R.ranks.length ck, .int .i64 R.saved] 35, .row (.slice sk R.ranks.length ck) 39 6 R.ranks.length (R.ranks.flatMap pC), .row (.slice sr R.rows.length cr) 3 1 R.rows.length (R.rows.flatMap iC)] wr) (fun ss _ => N - (intOf ss).toNat)
      case atStart => exact ⟨0, ⟨[], [], -1⟩, none, 0, none, 0, rfl, Nat.zero_le _, by simp, (show Hid _ from rfl), H⟩
      case round =>
        clear H C
        obtain ⟨n, R, sk, ck, sr, cr, rfl, hn, hrl12, HR, H⟩ := hrel
        skip
        try clear C
        try simp only [World.size_alloc, List.nil_append, List.cons_append, List.append_assoc] at H
        have C := H.cells
        try simp only [cellsOf, cellsM, apartOf, apartM, and_true] at C
        by_cases hlt : n < N
        · have hni : (n : Int) < N := by omega
          have hnr := H.nilRow 39 6
          clear H
          have H := hnr
          clear hnr
          try simp only [List.nil_append, List.cons_append] at H
          try clear C
          try simp only [World.size_alloc, List.nil_append, List.cons_append, List.append_assoc] at H
          have C := H.cells
          try simp only [cellsOf, cellsM, apartOf, apartM, and_true] at C
          go_wp2_with fail
          go_loopw [17, 101] (fun u jj wr => ∃ (k : Nat) (ys : List P6), jj = .int .i64 k ∧ k ≤ al.length ∧ Hid (ys = pickS (al.take k) n) ∧ HS NoD w [.blk bS #[.int .i64 a0, .int .i64 a1, .int .i64 a2, .int .i64 a3, .int .i64 a4, .int .i64 a5] 28, .blk bO #[.slice none 0 0, .slice none 0 0, .int .i64 0] 35, .row (.slice s5 al.length c5) 39 6 al.length (al.flatMap pC), .blk bT #[.slice sr R.rows.length cr, .slice sk R.ranks.length ck, .int .i64 R.saved] 35, .row (.slice sk R.ranks.length ck) 39 6 R.ranks.length (R.ranks.flatMap pC), .row (.slice sr R.rows.length cr) 3 1 R.rows.length (R.rows.flatMap iC), .row u 39 6 ys.length (ys.flatMap pC)] wr) (fun _ jj _ => al.length - (intOf jj).toNat)
          case atStart => exact ⟨0, [], rfl, Nat.zero_le _, (show Hid _ from rfl), H⟩
          case round =>
            clear H C
            obtain ⟨k, ys, rfl, hk, HY, H⟩ := hrel
            skip
            try clear C
            try simp only [World.size_alloc, List.nil_append, List.cons_append, List.append_assoc] at H
            have C := H.cells
            try simp only [cellsOf, cellsM, apartOf, apartM, and_true] at C
            by_cases hlt2 : k < al.length
            · have hki : (k : Int) < al.length := by omega
              have hk12 : (k : Int) ≤ 12 := by omega
              have HPT := Lib.hid (pickS_take al n k hlt2)
              have hyl : ys.length ≤ 12 := by rw [HY.out]; have := (pickS_sub (al.take k) n).length_le; have h9 : (al.take k).length ≤ al.length := by rw [List.length_take]; omega
                                              omega
              obtain ⟨bb, ob, rfl, hbz, hc⟩ := (H.rowLies 2 pC_len rfl rfl).at hlt2
              obtain ⟨x, hx⟩ : ∃ x, x = al[k]! := ⟨_, rfl⟩
              rw [← hx] at hc HPT
              clear hx
              obtain ⟨x0, x1, x2, x3, x4, x5⟩ := x
              have c0 : wr.cell? ⟨bb, ob + k * 6, none⟩ = some (.int .i64 x0) := hc 0 _ rfl
              have c1 : wr.cell? ⟨bb, ob + k * 6 + 1, none⟩ = some (.int .i64 x1) := hc 1 _ rfl
              have c2 : wr.cell? ⟨bb, ob + k * 6 + 2, none⟩ = some (.int .i64 x2) := hc 2 _ rfl
              have c3 : wr.cell? ⟨bb, ob + k * 6 + 3, none⟩ = some (.int .i64 x3) := hc 3 _ rfl
              have c4 : wr.cell? ⟨bb, ob + k * 6 + 4, none⟩ = some (.int .i64 x4) := hc 4 _ rfl
              have c5 : wr.cell? ⟨bb, ob + k * 6 + 5, none⟩ = some (.int .i64 x5) := hc 5 _ rfl
              clear hc hbz
              have hbit := bit_atI n k (by omega)
              have hdiv : 0 ≤ (n : Int) / 2 ^ k ∧ (n : Int) / 2 ^ k ≤ 4096 := div_in n k (by omega)
              go_upto_region 24 with fail
              clear c0 c1 c2 c3 c4 c5
              generalize hwb : wr.alloc _ = w19
              replace H := HS.eqW hwb H.alloc
              try simp only [World.size_alloc, List.nil_append, List.cons_append, List.append_assoc] at H
              clear hwb
              generalize wr.heap.size = bE at H ⊢
              try clear C
              try clear wr
              have C := H.cells
              try simp only [cellsOf, cellsM, apartOf, apartM, and_true] at C
              skip
              by_cases hodd : n / 2 ^ k % 2 = 1
              · have hbb : (bits BinOp.and IntKind.i64 ((n : Int) / 2 ^ k) 1 == 1) = true := by rw [hbit, hodd]; rfl
                rw [if_pos hodd] at HPT
                clear hbit hodd
                go_wp2_with (at_builtin; refine wpList_append_H rfl (.tmp 112) (.tmp 114) 33 rfl elemPl H.alloc 6 rfl rfl 8 rfl rfl rfl rfl (by decide) (by unfold maxLen; omega) (by omega) (fun g cap wz HZ9 => ?_); clear H C)
                go_roundw
                case rel =>
                  refine ⟨k + 1, ys ++ [⟨x0, x1, x2, x3, x4, x5⟩], by go_num, by omega, (show Hid _ from by rw [HPT.out, HY.out]; rfl), ?_⟩
                  rw [List.length_append, List.flatMap_append]
                  exact HS.less HZ9 (by repeat (first | exact .slnil | refine .cons_cons _ ?_ | refine .cons _ ?_))
                case measure => simp [intOf]; omega
              · have hbb : (bits BinOp.and IntKind.i64 ((n : Int) / 2 ^ k) 1 == 1) = false := by rw [hbit]; exact beq_eq_false_iff_ne.2 (by omega)
                rw [if_neg hodd, List.append_nil] at HPT
                clear hbit hodd
                skip
                go_wp2_with fail
                go_roundw
                case rel => exact ⟨k + 1, ys, by go_num, by omega, (show Hid _ from by rw [HPT.out, HY.out]; rfl), H.less (by repeat (first | exact .slnil | refine .cons_cons _ ?_ | refine .cons _ ?_))⟩
                case measure => simp [intOf]; omega
            · skip
              have hkl : k = al.length := by omega
              subst hkl
              obtain ⟨sy, cy, rfl⟩ := ownsRow_slice (H.at 6 rfl)
              have hyy := HY.out
              rw [List.take_length] at hyy
              have HYY := Lib.hid hyy
              have hyl : ys.length ≤ 12 := by rw [hyy]; have := (pickS_sub al n).length_le; omega
              clear hyy HY
              have HMN := Lib.hid (fun wx hx9 => rcrowded_any b (sa := sy) cy (rs := ys) (by omega) wx hx9)
              go_wp2_with fail
              refine (HMN.out _ (H.rowLies 6 pC_len rfl rfl)).mono ?_
              rintro _ wg ⟨rfl, hb⟩
              replace H := H.below hb
              clear hb HMN
              skip
              try clear C
              try simp only [World.size_alloc, List.nil_append, List.cons_append, List.append_assoc] at H
              have C := H.cells
              try simp only [cellsOf, cellsM, apartOf, apartM, and_true] at C
              cases hcr : crowdP chanP ys b with
              | true =>
                have HCR := Lib.hid hcr
                clear hcr
                go_wp2_with fail
                go_roundw
                case rel =>
                  refine ⟨n + 1, R, sk, ck, sr, cr, by go_num, by omega, hrl12, (show Hid _ from ?_), H.less (by repeat (first | exact .slnil | refine .cons_cons _ ?_ | refine .cons _ ?_))⟩
                  show R = bestStep al l a b (bestN al l a b n) n
                  unfold bestStep
                  rw [← HYY.out, HCR.out, if_pos rfl]; exact HR.out
                case measure => simp [intOf]; omega
              | false =>
                have HCR := Lib.hid hcr
                clear hcr
                have HBE := Lib.hid (fun wx h1 h2 => rrows_any (l := l) (by omega) a (sa := sa) (sc := sy) c cy (rs := ys) (by omega) wx h1 h2)
                have HWO := Lib.hid (fun (rows : List Int) (hrl : rows.length ≤ 100000) (sb : Option Addr) (d : Nat) wx h1 h2 h3 => rworth_any HOK.out (sa := sa) (sb := sb) (sc := sy) c d cy (rows := rows) (rs := ys) hrl (by omega) wx h1 h2 h3)
                have HRL := Lib.hid (show (rowsFor l a ys).length ≤ 100000 from by have := rowsK_len l a ys l.length; rw [rowsK_full] at this; omega)
                obtain ⟨pl, hpl⟩ : ∃ pl, pl = planOf l a ys := ⟨_, rfl⟩
                have HP1 := Lib.hid (show rowsFor l a ys = pl.rows from by rw [hpl]; rfl)
                have HP2 := Lib.hid (show worthP l pl.rows ys = pl.saved from by rw [hpl]; rfl)
                have HP3 := Lib.hid (show pl.ranks = ys from by rw [hpl]; rfl)
                have HAC := Lib.hid (show bestN al l a b (n + 1) = if betterP pl R = true then pl else R from by
                  show bestStep al l a b (bestN al l a b n) n = _
                  unfold bestStep
                  rw [← HYY.out, HCR.out, if_neg (by simp), ← hpl, ← HR.out])
                rw [HP1.out] at HBE HRL
                clear hpl HP1
                go_wp2_with fail
                refine (HBE.out _ (H.liesUp HL.out) (H.rowLies 6 pC_len rfl rfl)).mono ?_
                rintro _ wh ⟨sq, cq, rfl, hr, hb⟩
                replace H := H.getsRow hb hr
                clear hb hr HBE
                try simp only [List.nil_append, List.cons_append] at H
                skip
                try clear C
                try simp only [World.size_alloc, List.nil_append, List.cons_append, List.append_assoc] at H
                have C := H.cells
                try simp only [cellsOf, cellsM, apartOf, apartM, and_true] at C
                dsimp only
                go_wp2_with fail
                refine (HWO.out pl.rows HRL.out sq cq _ (H.liesUp HL.out) (H.rowLies 7 iC_len rfl rfl) (H.rowLies 6 pC_len rfl rfl)).mono ?_
                rintro _ wi ⟨rfl, hb⟩
                replace H := H.below hb
                clear hb HWO
                rw [HP2.out]
                skip
                try clear C
                try simp only [World.size_alloc, List.nil_append, List.cons_append, List.append_assoc] at H
                have C := H.cells
                try simp only [cellsOf, cellsM, apartOf, apartM, and_true] at C
                dsimp only
                go_upto_region 30 with fail
                generalize hwb : wi.alloc _ = w20
                replace H := HS.eqW hwb H.alloc
                try simp only [World.size_alloc, List.nil_append, List.cons_append, List.append_assoc] at H
                clear hwb
                generalize wi.heap.size = bX at H ⊢
                try clear C
                try clear wi
                have C := H.cells
                try simp only [cellsOf, cellsM, apartOf, apartM, and_true] at C
                skip
                have HEND := Lib.hid (fun (wx : World) (hx : HS NoD w [.blk bS #[.int .i64 a0, .int .i64 a1, .int .i64 a2, .int .i64 a3, .int .i64 a4, .int .i64 a5] 28, .blk bO #[.slice none 0 0, .slice none 0 0, .int .i64 0] 35, .row (.slice s5 al.length c5) 39 6 al.length (al.flatMap pC), .blk bT #[.slice sq pl.rows.length cq, .slice sy ys.length cy, .int .i64 pl.saved] 35, .row (.slice sy ys.length cy) 39 6 ys.length (ys.flatMap pC), .row (.slice sq pl.rows.length cq) 3 1 pl.rows.length (pl.rows.flatMap iC)] wx) => show HS NoD w [.blk bS #[.int .i64 a0, .int .i64 a1, .int .i64 a2, .int .i64 a3, .int .i64 a4, .int .i64 a5] 28, .blk bO #[.slice none 0 0, .slice none 0 0, .int .i64 0] 35, .row (.slice s5 al.length c5) 39 6 al.length (al.flatMap pC), .blk bT #[.slice sq pl.rows.length cq, .slice sy pl.ranks.length cy, .int .i64 pl.saved] 35, .row (.slice sy pl.ranks.length cy) 39 6 pl.ranks.length (pl.ranks.flatMap pC), .row (.slice sq pl.rows.length cq) 3 1 pl.rows.length (pl.rows.flatMap iC)] wx from by rw [HP3.out]; exact hx)
                by_cases hs1 : R.saved < pl.saved
                · have HS1 := Lib.hid hs1
                  have HBV := Lib.hid (show betterP pl R = true from by unfold betterP; rw [decide_eq_true HS1.out]; rfl)
                  go_wp2_with fail
                  generalize hwb : ((w20.setCell _ _).setCell _ _).setCell _ _ = w21
                  replace H := HS.eqW hwb (H.putAll (i := 3) rfl (vs := [.slice sq pl.rows.length cq, .slice sy ys.length cy, .int .i64 pl.saved]) rfl rfl)
                  simp only [List.nil_append, List.cons_append, List.append_assoc, List.set_cons_succ, List.set_cons_zero] at H
                  clear hwb
                  try clear C
                  try clear w20
                  have C := H.cells
                  try simp only [cellsOf, cellsM, apartOf, apartM, and_true] at C
                  go_roundw
                  case rel => exact ⟨n + 1, pl, sy, cy, sq, cq, by go_num, by omega, by rw [HP3.out]; exact hyl, (show Hid _ from by rw [HAC.out, HBV.out, if_pos rfl]; trivial), HEND.out _ (H.less (by repeat (first | exact .slnil | refine .cons_cons _ ?_ | refine .cons _ ?_)))⟩
                  case measure => simp [intOf]; omega
                · have HS1 := Lib.hid hs1
                  by_cases hs2 : pl.saved = R.saved
                  · have HS2 := Lib.hid hs2
                    have hs2b : (pl.saved == R.saved) = true := beq_iff_eq.2 hs2
                    clear hs2
                    by_cases hl1 : ys.length < R.ranks.length
                    · have hl1i : (ys.length : Int) < R.ranks.length := by omega
                      have HL1 := Lib.hid hl1
                      skip
                      have HBV := Lib.hid (show betterP pl R = true from by unfold betterP; rw [HP3.out, decide_eq_false (show ¬ R.saved < pl.saved by have := HS1.out; omega), decide_eq_true HS2.out, decide_eq_true HL1.out]; rfl)
                      go_wp2_with fail
                      generalize hwb : ((w20.setCell _ _).setCell _ _).setCell _ _ = w22
                      replace H := HS.eqW hwb (H.putAll (i := 3) rfl (vs := [.slice sq pl.rows.length cq, .slice sy ys.length cy, .int .i64 pl.saved]) rfl rfl)
                      simp only [List.nil_append, List.cons_append, List.append_assoc, List.set_cons_succ, List.set_cons_zero] at H
                      clear hwb
                      try clear C
                      try clear w20
                      have C := H.cells
                      try simp only [cellsOf, cellsM, apartOf, apartM, and_true] at C
                      go_roundw
                      case rel => exact ⟨n + 1, pl, sy, cy, sq, cq, by go_num, by omega, by rw [HP3.out]; exact hyl, (show Hid _ from by rw [HAC.out, HBV.out, if_pos rfl]; trivial), HEND.out _ (H.less (by repeat (first | exact .slnil | refine .cons_cons _ ?_ | refine .cons _ ?_)))⟩
                      case measure => simp [intOf]; omega
                    · have hl1i : ¬ (ys.length : Int) < R.ranks.length := by omega
                      have HL1 := Lib.hid hl1
                      by_cases hl2 : ys.length = R.ranks.length
                      · have hl2b : ((ys.length : Int) == R.ranks.length) = true := beq_iff_eq.2 (by omega)
                        have HL2 := Lib.hid hl2
                        have HLS := Lib.hid (fun wx h1 h2 => rlists_any (sa := sy) (sb := sk) cy ck (a := ys) (b := R.ranks) (by omega) hl2 wx h1 h2)
                        clear hl2 hl1
                        skip
                        go_wp2_with fail
                        refine (HLS.out _ (H.rowLies 6 pC_len rfl rfl) (H.rowLies 4 pC_len rfl rfl)).mono ?_
                        rintro _ wj ⟨rfl, hb⟩
                        replace H := H.below hb
                        clear hb HLS
                        skip
                        try clear C
                        try simp only [World.size_alloc, List.nil_append, List.cons_append, List.append_assoc] at H
                        have C := H.cells
                        try simp only [cellsOf, cellsM, apartOf, apartM, and_true] at C
                        dsimp only
                        skip
                        cases hls : listsP ys R.ranks with
                        | true =>
                          have HLT := Lib.hid hls
                          clear hls
                          have HBV := Lib.hid (show betterP pl R = true from by unfold betterP; rw [HP3.out, decide_eq_false (show ¬ R.saved < pl.saved by have := HS1.out; omega), decide_eq_true HS2.out, decide_eq_false (show ¬ ys.length < R.ranks.length by have := HL1.out; omega), decide_eq_true HL2.out, HLT.out]; rfl)
                          go_wp2_with fail
                          generalize hwb : ((wj.setCell _ _).setCell _ _).setCell _ _ = w23
                          replace H := HS.eqW hwb (H.putAll (i := 3) rfl (vs := [.slice sq pl.rows.length cq, .slice sy ys.length cy, .int .i64 pl.saved]) rfl rfl)
                          simp only [List.nil_append, List.cons_append, List.append_assoc, List.set_cons_succ, List.set_cons_zero] at H
                          clear hwb
                          try clear C
                          try clear wj
                          have C := H.cells
                          try simp only [cellsOf, cellsM, apartOf, apartM, and_true] at C
                          go_roundw
                          case rel => exact ⟨n + 1, pl, sy, cy, sq, cq, by go_num, by omega, by rw [HP3.out]; exact hyl, (show Hid _ from by rw [HAC.out, HBV.out, if_pos rfl]; trivial), HEND.out _ (H.less (by repeat (first | exact .slnil | refine .cons_cons _ ?_ | refine .cons _ ?_)))⟩
                          case measure => simp [intOf]; omega
                        | false =>
                          have HLT := Lib.hid hls
                          clear hls
                          skip
                          have HBV := Lib.hid (show betterP pl R = false from by unfold betterP; rw [HP3.out, decide_eq_false (show ¬ R.saved < pl.saved by have := HS1.out; omega), decide_eq_true HS2.out, decide_eq_false (show ¬ ys.length < R.ranks.length by have := HL1.out; omega), decide_eq_true HL2.out, HLT.out]; rfl)
                          go_wp2_with fail
                          go_roundw
                          case rel => exact ⟨n + 1, R, sk, ck, sr, cr, by go_num, by omega, hrl12, (show Hid _ from by rw [HAC.out, HBV.out, if_neg (by simp)]; trivial), H.less (by repeat (first | exact .slnil | refine .cons_cons _ ?_ | refine .cons _ ?_))⟩
                          case measure => simp [intOf]; omega
                      · have hl2b : ((ys.length : Int) == R.ranks.length) = false := beq_eq_false_iff_ne.2 (by omega)
                        have HL2 := Lib.hid hl2
                        skip
                        have HBV := Lib.hid (show betterP pl R = false from by unfold betterP; rw [HP3.out, decide_eq_false (show ¬ R.saved < pl.saved by have := HS1.out; omega), decide_eq_true HS2.out, decide_eq_false (show ¬ ys.length < R.ranks.length by have := HL1.out; omega), decide_eq_false HL2.out]; rfl)
                        go_wp2_with fail
                        go_roundw
                        case rel => exact ⟨n + 1, R, sk, ck, sr, cr, by go_num, by omega, hrl12, (show Hid _ from by rw [HAC.out, HBV.out, if_neg (by simp)]; trivial), H.less (by repeat (first | exact .slnil | refine .cons_cons _ ?_ | refine .cons _ ?_))⟩
                        case measure => simp [intOf]; omega
                  · have hs2b : (pl.saved == R.saved) = false := beq_eq_false_iff_ne.2 hs2
                    have HS2 := Lib.hid hs2
                    skip
                    have HBV := Lib.hid (show betterP pl R = false from by unfold betterP; rw [decide_eq_false (show ¬ R.saved < pl.saved by have := HS1.out; omega), decide_eq_false HS2.out]; rfl)
                    go_wp2_with fail
                    go_roundw
                    case rel => exact ⟨n + 1, R, sk, ck, sr, cr, by go_num, by omega, hrl12, (show Hid _ from by rw [HAC.out, HBV.out, if_neg (by simp)]; trivial), H.less (by repeat (first | exact .slnil | refine .cons_cons _ ?_ | refine .cons _ ?_))⟩
                    case measure => simp [intOf]; omega
        · skip
          have hnn : n = N := by omega
          subst hnn
          go_wp2_with fail
          generalize hwb : ((wr.setCell _ _).setCell _ _).setCell _ _ = w24
          replace H := HS.eqW hwb (H.putAll (i := 1) rfl (vs := [.slice sr R.rows.length cr, .slice sk R.ranks.length ck, .int .i64 R.saved]) rfl rfl)
          simp only [List.nil_append, List.cons_append, List.append_assoc, List.set_cons_succ, List.set_cons_zero] at H
          clear hwb
          try clear C
          try clear wr
          have C := H.cells
          try simp only [cellsOf, cellsM, apartOf, apartM, and_true] at C
          refine bodyPost_ret (by simp [results, Try.results17, go_sem, C]; try rfl) rfl ?_
          have hR : R = bestP l a b := by
            rw [HR.out, HN.out, HALE.out]; rfl
          rw [← hR]
          exact ⟨sk, ck, sr, cr, rfl, H.less (by repeat (first | exact .slnil | refine .cons_cons _ ?_ | refine .cons _ ?_))⟩
theorem rBest_any (a0 a1 a2 a3 a4 a5 : Int) {sa : Option Addr} (c : Nat) {l : List Nd} (hx : l.length ≤ 100000) (hcap : l.length ≤ c) (a b : Int) (w : World) (hl : Lies w w.heap.size sa 7 l.length (fun j => ndC l[j]!)) :
    Calls Try.prog 17 #[v6 a0 a1 a2 a3 a4 a5, .slice sa l.length c, .int .i64 a, .int .i64 b] w (GivesPl (bestV ⟨a0, a1, a2, a3, a4, a5⟩ l a b).1 (bestV ⟨a0, a1, a2, a3, a4, a5⟩ l a b).2 w) := by
  by_cases hv : validN ⟨a0, a1, a2, a3, a4, a5⟩ l
  · by_cases hf : (0 ≤ a ∧ a ≤ 12) ∧ 0 ≤ b ∧ b ≤ 12
    · rw [show bestV ⟨a0, a1, a2, a3, a4, a5⟩ l a b = (bestP l a b, 0) from by unfold bestV; rw [if_pos hv, if_pos hf]]
      exact rBest_ok a0 a1 a2 a3 a4 a5 c hx hcap a b hv hf.1 hf.2 w hl
    · rw [show bestV ⟨a0, a1, a2, a3, a4, a5⟩ l a b = (⟨[], [], 0⟩, 2) from by unfold bestV; rw [if_pos hv, if_neg hf]]
      exact rBest_bad2 a0 a1 a2 a3 a4 a5 c hx hcap a b hv hf w hl
  · rw [show bestV ⟨a0, a1, a2, a3, a4, a5⟩ l a b = (⟨[], [], 0⟩, 1) from by unfold bestV; rw [if_neg hv]]
    exact rBest_bad1 a0 a1 a2 a3 a4 a5 c hx hcap a b hv w hl
end Go.Proofs.Ytdhnpjgnnfgklaa
