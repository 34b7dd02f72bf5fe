/- memfaultref31.use: a slot made the youngest one, in place. -/
import Derived.Test.YtfmcicmbehjdcaaLrJ
import Derived.Test.YtfmcicmbehjdcaaOwnT
namespace Go.Proofs.Ytfmcicmbehjdcaa
set_option linter.unusedSimpArgs false
set_option linter.unusedVariables false
open Go.RowKit
set_option maxRecDepth 100000
attribute [local irreducible] wpX wpF Calls

def bumpS (q : Sw) : Sw := ⟨⟨q.s.u, q.s.age + 1, q.s.ln⟩, q.x⟩
/-- Behind k slots: what is younger than a is older by one. -/
def bumpK (lo k i : Nat) (a : Int) (qs : List Sw) : List Sw := qs.mapIdx fun j q => if lo ≤ j ∧ j < k ∧ j ≠ i ∧ q.s.u = true ∧ q.s.age < a then bumpS q else q
theorem bumpK_len (lo k i : Nat) (a : Int) (qs : List Sw) : (bumpK lo k i a qs).length = qs.length := List.length_mapIdx
theorem bumpK_get {lo k i : Nat} {a : Int} {qs : List Sw} {j : Nat} (hj : j < qs.length) : (bumpK lo k i a qs)[j]! = if lo ≤ j ∧ j < k ∧ j ≠ i ∧ (qs[j]!).s.u = true ∧ (qs[j]!).s.age < a then bumpS qs[j]! else qs[j]! := by
  unfold bumpK
  rw [getElem!_pos _ j (by rw [List.length_mapIdx]; exact hj), List.getElem_mapIdx, getElem!_pos qs j hj]
theorem bumpK_out {lo k i : Nat} {a : Int} {qs : List Sw} {j : Nat} (hj : j < qs.length) (h : j = i ∨ k ≤ j) : (bumpK lo k i a qs)[j]! = qs[j]! := by
  rw [bumpK_get hj, if_neg (by omega)]
theorem list_ext! {α : Type} [Inhabited α] {xs ys : List α} (hl : xs.length = ys.length) (h : ∀ j, j < xs.length → xs[j]! = ys[j]!) : xs = ys := List.ext_getElem hl fun j h1 h2 => by
  rw [← getElem!_pos xs j h1, ← getElem!_pos ys j h2]; exact h j h1
theorem bumpK_zero (lo i : Nat) (a : Int) (qs : List Sw) : bumpK lo lo i a qs = qs := list_ext! (bumpK_len _ _ _ _ _) fun j hj => by
  rw [bumpK_len] at hj
  rw [bumpK_get hj, if_neg (by omega)]
theorem bumpK_yes {lo k i : Nat} {a : Int} {qs : List Sw} (hk : k < qs.length) (hlo : lo ≤ k) (h : k ≠ i ∧ (qs[k]!).s.u = true ∧ (qs[k]!).s.age < a) : (bumpK lo k i a qs).set k (bumpS qs[k]!) = bumpK lo (k + 1) i a qs := list_ext! (by rw [List.length_set, bumpK_len, bumpK_len]) fun j hj => by
  rw [List.length_set, bumpK_len] at hj
  rw [set_getG _ _ _ _ (by rw [bumpK_len]; exact hj), bumpK_get hj]
  by_cases e : j = k
  · subst e; rw [if_pos rfl, bumpK_get hj, if_pos ⟨hlo, by omega, h⟩]
  · rw [if_neg e, bumpK_get hj]
    by_cases c : lo ≤ j ∧ j < k ∧ j ≠ i ∧ (qs[j]!).s.u = true ∧ (qs[j]!).s.age < a
    · rw [if_pos c, if_pos ⟨c.1, by omega, c.2.2⟩]
    · rw [if_neg c, if_neg (fun hh => c ⟨hh.1, by omega, hh.2.2⟩)]
theorem bumpK_no {lo k i : Nat} {a : Int} {qs : List Sw} (h : ¬ (k ≠ i ∧ (qs[k]!).s.u = true ∧ (qs[k]!).s.age < a)) : bumpK lo k i a qs = bumpK lo (k + 1) i a qs := list_ext! (by rw [bumpK_len, bumpK_len]) fun j hj => by
  rw [bumpK_len] at hj
  rw [bumpK_get hj, bumpK_get hj]
  by_cases c : lo ≤ j ∧ j < k ∧ j ≠ i ∧ (qs[j]!).s.u = true ∧ (qs[j]!).s.age < a
  · rw [if_pos c, if_pos ⟨c.1, by omega, c.2.2⟩]
  · rw [if_neg c, if_neg (fun hh => c ⟨hh.1, by
      rcases Nat.lt_or_eq_of_le (Nat.le_of_lt_succ hh.2.1) with e | e
      · exact e
      · subst e; exact absurd hh.2.2 h, hh.2.2⟩)]
def youngS (q : Sw) : Sw := ⟨⟨q.s.u, 0, q.s.ln⟩, q.x⟩
/-- The slots behind a use. -/
def useQ (W s r : Nat) (qs : List Sw) : List Sw := (bumpK (s * W) (s * W + W) (s * W + r) (qs[s * W + r]!).s.age qs).set (s * W + r) (youngS qs[s * W + r]!)
theorem useQ_len (W s r : Nat) (qs : List Sw) : (useQ W s r qs).length = qs.length := by unfold useQ; rw [List.length_set, bumpK_len]
theorem useQ_get {W s r : Nat} {qs : List Sw} {j : Nat} (hj : j < qs.length) : (useQ W s r qs)[j]! = if j = s * W + r then youngS qs[j]! else if s * W ≤ j ∧ j < s * W + W ∧ (qs[j]!).s.u = true ∧ (qs[j]!).s.age < (qs[s * W + r]!).s.age then bumpS qs[j]! else qs[j]! := by
  unfold useQ
  rw [set_getG _ _ _ _ (by rw [bumpK_len]; exact hj)]
  by_cases e : j = s * W + r
  · subst e; rw [if_pos rfl, if_pos rfl]
  · rw [if_neg e, if_neg e, bumpK_get hj]
    by_cases c : s * W ≤ j ∧ j < s * W + W ∧ (qs[j]!).s.u = true ∧ (qs[j]!).s.age < (qs[s * W + r]!).s.age
    · rw [if_pos c, if_pos ⟨c.1, c.2.1, e, c.2.2⟩]
    · rw [if_neg c, if_neg (fun h => c ⟨h.1, h.2.1, h.2.2.2⟩)]
theorem useQ_map {W s r : Nat} {qs : List Sw} (hin : s * W + W ≤ qs.length) (hr : r < W) : (useQ W s r qs).map Sw.s = onSet W s (qs.map Sw.s) (useG (rowG W (qs.map Sw.s) s) r) := list_ext! (by rw [List.length_map, useQ_len, onSet_len, List.length_map]) fun j hj => by
  rw [List.length_map, useQ_len] at hj
  rw [map_get _ _ _ (by rw [useQ_len]; exact hj), useQ_get hj, onSet_get (by rw [List.length_map]; exact hj), map_get _ _ _ hj]
  by_cases c : s * W ≤ j ∧ j < s * W + W
  · rw [if_pos c]
    have e0 : rowG W (qs.map Sw.s) s (j - s * W) = (qs[j]!).s := by
      unfold rowG
      rw [show s * W + (j - s * W) = j by omega, map_get _ _ _ hj]
    have e1 : rowG W (qs.map Sw.s) s r = (qs[s * W + r]!).s := by
      unfold rowG
      rw [map_get _ _ _ (by omega)]
    unfold useG
    rw [e0, e1]
    by_cases e : j = s * W + r
    · rw [if_pos e, if_pos (by omega)]; rfl
    · rw [if_neg e, if_neg (show ¬ j - s * W = r by omega)]
      by_cases d : (qs[j]!).s.u = true ∧ (qs[j]!).s.age < (qs[s * W + r]!).s.age
      · rw [if_pos d, if_pos ⟨c.1, c.2, d⟩]; rfl
      · rw [if_neg d, if_neg (fun h => d h.2.2)]
  · rw [if_neg c, if_neg (show ¬ j = s * W + r by omega), if_neg (fun h => c ⟨h.1, h.2.1⟩)]
theorem useQ_ok {W s r : Nat} {qs : List Sw} {w : World} (h : SlotsOk w qs) : SlotsOk w (useQ W s r qs) := fun j hj => by
  rw [useQ_len] at hj
  rw [useQ_get hj]
  have := h j hj
  split
  · exact this
  · split <;> exact this
/-- A call that turns the slots in place. -/
def TurnsTo (g n c : Nat) (qs' : List Sw) (w : World) (e : Ending) (w' : World) : Prop := e = .returned (.tuple #[]) ∧ HS (OneD g) w [rowS (some ⟨g, 0, none⟩) n c qs'] w'
set_option maxHeartbeats 16000000 in
theorem r31use_any {S W : Nat} {size : Int} {qs : List Sw} (hg : GoodC S W size (qs.map Sw.s)) {g c s r : Nat} (hs : s < S) (hr : r < W) (w : World) (hrow : w.ownsRow 0 37 6 (.slice (some ⟨g, 0, none⟩) qs.length c) qs.length (qs.flatMap swC)) :
    Calls Try.prog 52 #[caV S W size ⟨some ⟨g, 0, none⟩, qs.length, c⟩, .int .i64 ((s * W + r : Nat) : Int)] w (TurnsTo g qs.length c (useQ W s r qs) w) := by
  have hS8 := hg.S8
  have hW4 := hg.W4
  have hW1 := hg.W1
  have hin : s * W + W ≤ qs.length := by have := hg.fits hs; rwa [List.length_map] at this
  have hlen : qs.length ≤ 32 := by
    have := hg.len
    rw [List.length_map] at this
    rw [this]
    exact Nat.le_trans (Nat.mul_le_mul hS8 hW4) (by omega)
  have HAB := Lib.hid (show ∀ j, j < qs.length → (qs[j]!).s.u = true → 0 ≤ (qs[j]!).s.age ∧ (qs[j]!).s.age < 4 from fun j hj hu => by
    obtain ⟨c1, c2, c3⟩ := hg.coord (k := j) (by rw [List.length_map]; exact hj)
    have e : rowG W (qs.map Sw.s) (j / W) (j % W) = (qs[j]!).s := by unfold rowG; rw [c3, map_get _ _ _ hj]
    have h1 := (hg.sets _ c1).age0 _ c2 (by rw [e]; exact hu)
    have h2 := (hg.sets _ c1).ageU _ c2 (by rw [e]; exact hu)
    rw [e] at h1 h2
    omega)
  obtain ⟨lo, hlo⟩ : ∃ lo, lo = s * W := ⟨_, rfl⟩
  have hlw : (s : Int) * W = lo := by rw [hlo]; push_cast; rfl
  have hhw : ((s : Int) + 1) * W = ((lo + W : Nat) : Int) := by rw [Int.add_mul, Int.one_mul, hlw]; push_cast; rfl
  have hUQ : useQ W s r qs = (bumpK lo (lo + W) (lo + r) (qs[lo + r]!).s.age qs).set (lo + r) (youngS qs[lo + r]!) := by unfold useQ; rw [hlo]
  have hqt : ((lo + r : Nat) : Int).tdiv W = s := by
    rw [Int.tdiv_eq_ediv_of_nonneg (by omega), hlo, ← Int.natCast_ediv]
    congr 1
    rw [Nat.mul_comm, Nat.mul_add_div (by omega), Nat.div_eq_of_lt hr]; omega
  rw [← hlo] at hin
  rw [hUQ, ← hlo]
  obtain ⟨i, hi⟩ : ∃ i, i = lo + r := ⟨_, rfl⟩
  rw [← hi] at hqt ⊢
  have hil : i < qs.length := by omega
  have hw0 : IntKind.i64.wrap (((i : Nat) : Int).tdiv W) = s := by rw [hqt]; exact IntWalk.i64_in _ (by omega)
  have hw1 : IntKind.i64.wrap ((s : Int) * W) = lo := by rw [hlw]; exact IntWalk.i64_in _ (by omega)
  obtain ⟨hi2, hie⟩ : ∃ h, h = lo + W := ⟨_, rfl⟩
  have hw2 : IntKind.i64.wrap (((s : Int) + 1) * W) = hi2 := by rw [hhw, hie]; exact IntWalk.i64_in _ (by omega)
  have hW0 : ((W : Int) == 0) = false := beq_eq_false_iff_ne.2 (by omega)
  have hW0' : ¬ W = 0 := by omega
  rw [← hie]
  have HIN := Lib.hid hin
  have HR := Lib.hid hrow
  clear hg hlw hhw hUQ hrow
  have HLO := Lib.hid hlo
  have HI := Lib.hid hi
  have HIE := Lib.hid hie
  clear hlo hi hie hin
  show Calls Try.prog 52 #[.agg #[.int .i64 S, .int .i64 W, .int .i64 size, .slice (some ⟨g, 0, none⟩) qs.length c], .int .i64 (i : Int)] w _
  go_enter Try.func52, Try.ntmps52
  have H := HS.start NoD w
  clear H
  have H := HS.startOwn HR.out
  have C := H.cells
  simp only [cellsOf, cellsM, apartOf, apartM, and_true] at C
  go_upto_region 1 with fail
  generalize hwb : w.alloc _ = w1
  replace H := HS.eqW hwb H.alloc
  try simp only [World.size_alloc, List.nil_append, List.cons_append, List.append_assoc] at H
  clear hwb
  generalize w.heap.size = bX at H ⊢
  try clear C
  have C := H.cells
  try simp only [cellsOf, cellsM, apartOf, apartM, and_true] at C
  go_wp2_with fail
  obtain ⟨a, ha⟩ : ∃ a, a = (qs[i]!).s.age := ⟨_, rfl⟩
  have HA := Lib.hid ha
  clear ha
  have HLW := Lib.hid (show lo ≤ hi2 ∧ hi2 ≤ qs.length ∧ hi2 = lo + W from ⟨by rw [HIE.out]; omega, by rw [HIE.out]; exact HIN.out, HIE.out⟩)
  go_loopw [5] (fun kk wr => ∃ (k : Nat), kk = .int .i64 k ∧ lo ≤ k ∧ k ≤ hi2 ∧ HS (OneD g) w [rowS (some ⟨g, 0, none⟩) qs.length c (bumpK lo k i a qs), .blk bX #[.int .i64 S, .int .i64 W, .int .i64 size, .slice (some ⟨g, 0, none⟩) qs.length c] 24] wr) (fun kk _ => hi2 - (intOf kk).toNat)
  case atStart => exact ⟨lo, rfl, Nat.le_refl _, HLW.out.1, by rw [bumpK_zero]; exact H⟩
  case round =>
    clear H C
    obtain ⟨k, rfl, hk1, hk2, H⟩ := hrel
    skip
    try clear C
    try simp only [World.size_alloc, List.nil_append, List.cons_append, List.append_assoc] at H
    have C := H.cells
    try simp only [cellsOf, cellsM, apartOf, apartM, and_true] at C
    have hcell : ∀ (k' : Nat), k' < qs.length → ∀ m u, (swC (bumpK lo k i a qs)[k']!)[m]? = some u → wr.cell? ⟨g, k' * 6 + m, none⟩ = some u ∧ wr.frozen? ⟨g, k' * 6 + m, none⟩ = false := fun k' hk' m u hu => by
      have hm : m < 6 := (List.getElem?_eq_some_iff.1 hu).1
      have h1 := H.rowCells 0 rfl (k' * 6 + m) (by omega)
      exact ⟨h1.1.trans (flat_get swC_len (bumpK lo k i a qs) k' m u (by rw [bumpK_len]; exact hk') hu), h1.2⟩
    by_cases hlt : k < hi2
    · have hkl : k < qs.length := by have := HLW.out; omega
      have hki : (k : Int) < hi2 := by omega
      have e1 := bumpK_out (lo := lo) (k := k) (i := i) (a := a) hkl (.inr (Nat.le_refl _))
      have e2 := bumpK_out (lo := lo) (k := k) (i := i) (a := a) hil (.inl rfl)
      have c1 := hcell k hkl
      have c2 := hcell i hil
      rw [e1] at c1
      rw [e2] at c2
      have HYES := Lib.hid (bumpK_yes (lo := lo) (i := i) (a := a) hkl hk1)
      have HNO := Lib.hid (bumpK_no (lo := lo) (k := k) (i := i) (a := a) (qs := qs))
      have HABK := Lib.hid (HAB.out k hkl)
      have HSW := Lib.hid (sw_age (bumpK lo k i a qs) k ((qs[k]!).s.age + 1) (by rw [bumpK_len]; exact hkl))
      rw [e1] at HSW
      have i1 : wr.cell? ⟨g, i * 6 + 1, none⟩ = some (.int .i64 a) := by rw [HA.out]; exact (c2 1 _ rfl).1
      obtain ⟨q, hq⟩ : ∃ q, q = qs[k]! := ⟨_, rfl⟩
      rw [← hq] at c1 HYES HNO HABK HSW
      have EK := Lib.hid (e1.trans hq.symm)
      have EI := Lib.hid e2
      clear hq hcell e1 e2 c2
      obtain ⟨⟨u, age, ad, bs, d, p⟩, ⟨sa, sn, sc⟩⟩ := q
      have k0 : wr.cell? ⟨g, k * 6, none⟩ = some (.bool u) := (c1 0 _ rfl).1
      have k1 : wr.cell? ⟨g, k * 6 + 1, none⟩ = some (.int .i64 age) := (c1 1 _ rfl).1
      have k1f : wr.frozen? ⟨g, k * 6 + 1, none⟩ = false := (c1 1 _ rfl).2
      have hgl : g < wr.heap.size := Item.lt (H.at 0 rfl) (k := g) rfl
      have HCG := Lib.hid (show ∀ (m : Nat) (v : Value), (swC ⟨⟨u, age, ⟨ad, bs, d, p⟩⟩, ⟨sa, sn, sc⟩⟩)[m]? = some v → ((bumpK lo k i a qs).flatMap swC)[k * 6 + m]? = some v from fun m v hu => flat_get swC_len (bumpK lo k i a qs) k m v (by rw [bumpK_len]; exact hkl) (by rw [EK.out]; exact hu))
      have HIG := Lib.hid (show ((bumpK lo k i a qs).flatMap swC)[i * 6 + 1]? = some (.int .i64 a) from flat_get swC_len (bumpK lo k i a qs) i 1 _ (by rw [bumpK_len]; exact hil) (by rw [EI.out, HA.out]; rfl))
      clear c1
      dsimp only at HYES HNO HABK HSW
      have hkq : (k : Int) < qs.length := by omega
      have hiq : (i : Int) < qs.length := by omega
      skip
      by_cases hne : k = i
      · have hneb : ((k : Int) != (i : Int)) = false := by rw [hne]; simp
        have HN2 := Lib.hid (HNO.out (fun h => h.1 hne))
        clear hne
        skip
        go_upto_region 5 with fail
        refine wp_region_xH (by kernel_rfl) (by kernel_rfl) (by kernel_rfl) (by kernel_rfl) (fun _ => False) (H) ?_
        clear H; intro w2 H hz0 hs0
        try clear C
        try simp only [World.size_alloc, List.nil_append, List.cons_append, List.append_assoc] at H hz0
        clear hz0
        try clear wr
        have C := H.cells
        try simp only [cellsOf, cellsM, apartOf, apartM, and_true] at C
        have Z := H.zs
        try simp only [ltsOf, ltsM, and_true] at Z
        have hz0 := Nat.le_refl w2.heap.size
        repeat (first | (refine wpX_skip rfl ?_; go_simp) | (refine wpX_free rfl rfl rfl (fun K hK => ?_); go_step; refine hK _ _ ?_; clear hK K) | (refine wpX_load rfl rfl rfl (by simp [Stay, OneD, NoD, *]) hs0 (by simp [*]) (fun K hK => ?_); go_step; refine hK _ _ ?_; clear hK K))
        (refine wpX_nil ?_; go_step)
        go_wp2_with fail
        go_roundw
        case rel => exact ⟨k + 1, by go_num, by omega, by omega, by rw [← HN2.out]; exact H⟩
        case measure => simp [intOf]; omega
      · have hneb : ((k : Int) != (i : Int)) = true := bne_iff_ne.2 (by omega)
        have HNE := Lib.hid hne
        clear hne
        skip
        cases u
        case false =>
          have HN2 := Lib.hid (HNO.out (fun h => nomatch h.2.1))
          go_upto_region 5 with fail
          refine wp_region_xH (by kernel_rfl) (by kernel_rfl) (by kernel_rfl) (by kernel_rfl) (fun _ => False) (H) ?_
          clear H; intro w3 H hz0 hs0
          try clear C
          try simp only [World.size_alloc, List.nil_append, List.cons_append, List.append_assoc] at H hz0
          clear hz0
          try clear wr
          have C := H.cells
          try simp only [cellsOf, cellsM, apartOf, apartM, and_true] at C
          have Z := H.zs
          try simp only [ltsOf, ltsM, and_true] at Z
          have hz0 := Nat.le_refl w3.heap.size
          have hgl : g < w3.heap.size := Item.lt (H.at 0 rfl) (k := g) rfl
          have k0 : w3.cell? ⟨g, k * 6, none⟩ = some (.bool false) := (H.rowCells 0 rfl (k * 6) (by omega)).1.trans (HCG.out 0 _ rfl)
          have k1 : w3.cell? ⟨g, k * 6 + 1, none⟩ = some (.int .i64 age) := (H.rowCells 0 rfl (k * 6 + 1) (by omega)).1.trans (HCG.out 1 _ rfl)
          have k1f := (H.rowCells 0 rfl (k * 6 + 1) (by omega)).2
          have i1 : w3.cell? ⟨g, i * 6 + 1, none⟩ = some (.int .i64 a) := (H.rowCells 0 rfl (i * 6 + 1) (by omega)).1.trans HIG.out
          repeat (first | (refine wpX_skip rfl ?_; go_simp) | (refine wpX_free rfl rfl rfl (fun K hK => ?_); go_step; refine hK _ _ ?_; clear hK K) | (refine wpX_load rfl rfl rfl (by simp [Stay, OneD, NoD, *]) hs0 (by simp [*]) (fun K hK => ?_); go_step; refine hK _ _ ?_; clear hK K))
          (refine wpX_nil ?_; go_step)
          go_wp2_with fail
          go_roundw
          case rel => exact ⟨k + 1, by go_num, by omega, by omega, by rw [← HN2.out]; exact H⟩
          case measure => simp [intOf]; omega
        case true =>
          have hab := HABK.out rfl
          have hgl := hgl
          by_cases hage : age < a
          · have HY2 := Lib.hid (HYES.out ⟨HNE.out, rfl, hage⟩)
            go_upto_region 5 with fail
            refine wp_region_xH (by kernel_rfl) (by kernel_rfl) (by kernel_rfl) (by kernel_rfl) (fun _ => False) (H) ?_
            clear H; intro w4 H hz0 hs0
            try clear C
            try simp only [World.size_alloc, List.nil_append, List.cons_append, List.append_assoc] at H hz0
            clear hz0
            try clear w3
            have C := H.cells
            try simp only [cellsOf, cellsM, apartOf, apartM, and_true] at C
            have Z := H.zs
            try simp only [ltsOf, ltsM, and_true] at Z
            have hz0 := Nat.le_refl w4.heap.size
            have hgl : g < w4.heap.size := Item.lt (H.at 0 rfl) (k := g) rfl
            have k0 : w4.cell? ⟨g, k * 6, none⟩ = some (.bool true) := (H.rowCells 0 rfl (k * 6) (by omega)).1.trans (HCG.out 0 _ rfl)
            have k1 : w4.cell? ⟨g, k * 6 + 1, none⟩ = some (.int .i64 age) := (H.rowCells 0 rfl (k * 6 + 1) (by omega)).1.trans (HCG.out 1 _ rfl)
            have k1f := (H.rowCells 0 rfl (k * 6 + 1) (by omega)).2
            have i1 : w4.cell? ⟨g, i * 6 + 1, none⟩ = some (.int .i64 a) := (H.rowCells 0 rfl (i * 6 + 1) (by omega)).1.trans HIG.out
            repeat (first | (refine wpX_skip rfl ?_; go_simp) | (refine wpX_free rfl rfl rfl (fun K hK => ?_); go_step; refine hK _ _ ?_; clear hK K) | (refine wpX_load rfl rfl rfl (by simp [Stay, OneD, NoD, *]) hs0 (by simp [*]) (fun K hK => ?_); go_step; refine hK _ _ ?_; clear hK K))
            (refine wpX_nil ?_; go_step)
            go_wp2_with fail
            generalize hwb : World.setCell _ _ _ = w8 at *
            have H9 := HS.eqW hwb (H.rowSet 0 rfl (k * 6 + 1) (.int .i64 (age + 1)))
            simp only [List.set_cons_zero] at H9
            go_roundw
            case rel => exact ⟨k + 1, by go_num, by omega, by omega, by
              rw [← HY2.out]
              have := HSW.out
              rw [this] at H9
              exact H9⟩
            case measure => simp [intOf]; omega
          · have HN2 := Lib.hid (HNO.out (fun h => hage h.2.2))
            go_upto_region 5 with fail
            refine wp_region_xH (by kernel_rfl) (by kernel_rfl) (by kernel_rfl) (by kernel_rfl) (fun _ => False) (H) ?_
            clear H; intro w5 H hz0 hs0
            try clear C
            try simp only [World.size_alloc, List.nil_append, List.cons_append, List.append_assoc] at H hz0
            clear hz0
            try clear w4
            have C := H.cells
            try simp only [cellsOf, cellsM, apartOf, apartM, and_true] at C
            have Z := H.zs
            try simp only [ltsOf, ltsM, and_true] at Z
            have hz0 := Nat.le_refl w5.heap.size
            have hgl : g < w5.heap.size := Item.lt (H.at 0 rfl) (k := g) rfl
            have k0 : w5.cell? ⟨g, k * 6, none⟩ = some (.bool true) := (H.rowCells 0 rfl (k * 6) (by omega)).1.trans (HCG.out 0 _ rfl)
            have k1 : w5.cell? ⟨g, k * 6 + 1, none⟩ = some (.int .i64 age) := (H.rowCells 0 rfl (k * 6 + 1) (by omega)).1.trans (HCG.out 1 _ rfl)
            have k1f := (H.rowCells 0 rfl (k * 6 + 1) (by omega)).2
            have i1 : w5.cell? ⟨g, i * 6 + 1, none⟩ = some (.int .i64 a) := (H.rowCells 0 rfl (i * 6 + 1) (by omega)).1.trans HIG.out
            repeat (first | (refine wpX_skip rfl ?_; go_simp) | (refine wpX_free rfl rfl rfl (fun K hK => ?_); go_step; refine hK _ _ ?_; clear hK K) | (refine wpX_load rfl rfl rfl (by simp [Stay, OneD, NoD, *]) hs0 (by simp [*]) (fun K hK => ?_); go_step; refine hK _ _ ?_; clear hK K))
            (refine wpX_nil ?_; go_step)
            go_wp2_with fail
            go_roundw
            case rel => exact ⟨k + 1, by go_num, by omega, by omega, by rw [← HN2.out]; exact H⟩
            case measure => simp [intOf]; omega
    · obtain rfl : k = hi2 := by omega
      have hil2 : (i : Int) < qs.length := by omega
      have e2 := bumpK_out (lo := lo) (k := k) (i := i) (a := a) hil (.inl rfl)
      have c2 := hcell i hil
      rw [e2] at c2
      have HSW := Lib.hid (sw_age (bumpK lo k i a qs) i 0 (by rw [bumpK_len]; exact hil))
      rw [e2] at HSW
      have i1 : wr.cell? ⟨g, i * 6 + 1, none⟩ = some (.int .i64 a) := by rw [HA.out]; exact (c2 1 _ rfl).1
      have i1f : wr.frozen? ⟨g, i * 6 + 1, none⟩ = false := (c2 1 _ rfl).2
      have hgl : g < wr.heap.size := Item.lt (H.at 0 rfl) (k := g) rfl
      clear hcell e2 c2
      go_wp2_with fail
      generalize hwb : World.setCell _ _ _ = w8 at *
      have H9 := HS.eqW hwb (H.rowSet 0 rfl (i * 6 + 1) (.int .i64 0))
      simp only [List.set_cons_zero] at H9
      rw [HSW.out] at H9
      go_end0
      exact ⟨rfl, by rw [← HA.out]; exact HS.less H9 (by repeat (first | exact .slnil | refine .cons_cons _ ?_ | refine .cons _ ?_))⟩
end Go.Proofs.Ytfmcicmbehjdcaa
