/- Plan (chapter 39): slices.Compact at places of one's own. -/
import Derived.Test.YtdhnpjgnnfgklaaPlP
import Derived.Lib.SliceRun
namespace Go.Proofs.Ytdhnpjgnnfgklaa
set_option linter.unusedSimpArgs false
set_option linter.unusedVariables false
open Go.RowKit
set_option maxRecDepth 100000
attribute [local irreducible] wpX wpF Calls
attribute [local go_sem] run_mkMapG

def setsZ {α : Type} : List α → Nat → List α → List α
  | xs, _, [] => xs
  | xs, o, v :: vs => setsZ (xs.set o v) (o + 1) vs
theorem HS.rowSetsZ {D : Nat → Prop} {W : World} {g n cap k : Nat} {e : TypeId} (i : Nat) : ∀ (vs : List Value) (o : Nat) {w : World} {L : List Item} {xs : List Value}, HS D W L w → L[i]? = some (.row (.slice (some ⟨g, 0, none⟩) n cap) e k n xs) →
    HS D W (L.set i (.row (.slice (some ⟨g, 0, none⟩) n cap) e k n (setsZ xs o vs))) (w.setCells g o vs)
  | [], o, w, L, xs, h, hi => by
    have : L.set i (.row (.slice (some ⟨g, 0, none⟩) n cap) e k n xs) = L := by
      refine List.ext_getElem? fun j => ?_
      by_cases e : i = j
      · subst e; rw [List.getElem?_set_self (List.getElem?_eq_some_iff.1 hi).1, hi]
      · rw [List.getElem?_set_ne e]
    rw [setsZ, this]
    exact h
  | v :: vs, o, w, L, xs, h, hi => by
    have h1 := h.rowSet i hi o v
    have h2 := HS.rowSetsZ i vs (o + 1) (xs := xs.set o v) h1 (by rw [List.getElem?_set_self (List.getElem?_eq_some_iff.1 hi).1])
    rw [List.set_set] at h2
    exact h2
theorem setsZ_right {α : Type} (A : List α) : ∀ (vs B : List α) (o : Nat), setsZ (A ++ B) (A.length + o) vs = A ++ setsZ B o vs
  | [], B, o => rfl
  | v :: vs, B, o => by
    rw [setsZ, setsZ, List.set_append_right _ _ (by omega), show A.length + o - A.length = o by omega, Nat.add_assoc, setsZ_right A vs]
theorem setsZ_take {α : Type} : ∀ (vs xs : List α) (o m : Nat), m ≤ o → (setsZ xs o vs).take m = xs.take m
  | [], xs, o, m, _ => rfl
  | v :: vs, xs, o, m, h => by
    rw [setsZ, setsZ_take vs _ _ _ (by omega), List.take_set_of_le h]
theorem setsZ_pC : ∀ (ys : List P6) (k : Nat) (q : P6), k < ys.length → setsZ (ys.flatMap pC) (k * 6) (pC q) = (ys.set k q).flatMap pC
  | [], k, q, h => absurd h (by simp)
  | y :: ys, 0, q, h => by
    rw [List.flatMap_cons, List.set_cons_zero, List.flatMap_cons]
    rfl
  | y :: ys, k + 1, q, h => by
    rw [List.flatMap_cons, List.set_cons_succ, List.flatMap_cons, ← setsZ_pC ys k q (by simpa using h)]
    have := setsZ_right (pC y) (pC q) (ys.flatMap pC) (k * 6)
    rw [pC_len] at this
    rw [show (k + 1) * 6 = 6 + k * 6 by omega]
    exact this
/-- 'clear' of places. -/
theorem run_clear_Pl (w : World) (b o m : Nat) (hm : 0 < m) (hc : ∀ j, j < m * 6 → (w.cell? ⟨b, o + j, none⟩).isSome = true) (hf : ∀ j, j < m * 6 → w.frozen? ⟨b, o + j, none⟩ = false) :
    ∃ zs : List Value, zs.length = m * 6 ∧ ∀ ty c, (Builtin.clear_ #[33] ty #[.slice (some ⟨b, o, none⟩) m c]).run Try.prog w = .ok (.tuple #[]) (w.setCells b o zs) := by
  have hv : ∀ w, (zeroValue 39).run Try.prog w = .ok (v6 0 0 0 0 0 0) w := fun w => by kernel_rfl
  have hl : (Builtin.zeroCells (v6 0 0 0 0 0 0).cells m).toList.length = m * 6 := by
    simp [Builtin.zeroCells, v6, Value.cells]
  have h1 : ∀ v ∈ (Builtin.zeroCells (v6 0 0 0 0 0 0).cells m).toList, v.oneCell' = true := fun v hv => by
    obtain ⟨i, hi, rfl⟩ := List.getElem_of_mem hv
    simp only [Builtin.zeroCells, Array.getElem_toList, Array.getElem_map, Array.getElem_range]
    have : i % 6 = 0 ∨ i % 6 = 1 ∨ i % 6 = 2 ∨ i % 6 = 3 ∨ i % 6 = 4 ∨ i % 6 = 5 := by omega
    rcases this with e | e | e | e | e | e <;> (show Value.oneCell' ((v6 0 0 0 0 0 0).cells[i % 6]!) = true; rw [e]; rfl)
  refine ⟨_, hl, fun ty c => ?_⟩
  have hst := run_storeCells_cells (P := Try.prog) b o (Builtin.zeroCells (v6 0 0 0 0 0 0).cells m).toList 0 w (by rw [hl]; simpa using hc) (by rw [hl]; simpa using hf) h1
  simp only [Nat.add_zero] at hst
  obtain ⟨m, rfl⟩ : ∃ k, m = k + 1 := ⟨m - 1, by omega⟩
  simp [Builtin.clear_, run_underlying Try.underlying33, hv, hst]
theorem flat_takeP : ∀ (ys : List P6) (k : Nat), (ys.flatMap pC).take (k * 6) = (ys.take k).flatMap pC
  | ys, 0 => by simp
  | [], k + 1 => by simp
  | y :: ys, k + 1 => by
    rw [List.take_succ_cons, List.flatMap_cons, List.flatMap_cons, ← flat_takeP ys k, List.take_append, show (k + 1) * 6 - (pC y).length = k * 6 by rw [pC_len]; omega, List.take_of_length_le (by rw [pC_len]; omega)]
/-! ### what Compact does, in plain words -/
theorem ddP_snoc : ∀ (l : List P6) (p x : P6), ddP p (l ++ [x]) = ddP p l ++ if x = l.getLastD p then [] else [x]
  | [], p, x => by
    by_cases e : x = p <;> simp [ddP, e]
  | y :: l, p, x => by
    rw [List.cons_append, ddP, ddP, List.getLastD_cons]
    by_cases e : y = p
    · subst e
      rw [if_pos rfl, if_pos rfl, ddP_snoc l y x]
    · rw [if_neg e, if_neg e, ddP_snoc l y x]
      rfl
theorem compactP_step {ts : List P6} {p : Nat} (h0 : 0 < p) (hp : p < ts.length) : compactP (ts.take (p + 1)) = compactP (ts.take p) ++ if ts[p]! = ts[p - 1]! then [] else [ts[p]!] := by
  cases ts with
  | nil => simp at hp
  | cons x ts =>
    obtain ⟨m, rfl⟩ : ∃ m, p = m + 1 := ⟨p - 1, by omega⟩
    have hm : m < ts.length := by simpa using hp
    rw [List.take_succ_cons, List.take_succ_cons, compactP, compactP, List.take_add_one, List.getElem?_eq_getElem hm]
    simp only [Option.toList_some]
    rw [ddP_snoc]
    have e1 : (x :: ts)[m + 1]! = ts[m] := by rw [getElem!_pos (x :: ts) (m + 1) (by simpa using hm)]; rfl
    have e2 : (x :: ts)[m + 1 - 1]! = (ts.take m).getLastD x := by
      rw [Nat.add_sub_cancel, getElem!_pos (x :: ts) m (by simp; omega)]
      cases m with
      | zero => simp
      | succ m =>
        have h1 : ts.take (m + 1) = ts.take m ++ [ts[m]'(by omega)] := by rw [List.take_add_one, List.getElem?_eq_getElem (by omega)]; rfl
        rw [h1, List.getLastD_concat]; rfl
    rw [e1, e2]
    rfl
/-- What Compact hands back. -/
def CompactR (g c : Nat) (ts : List P6) (w : World) (e : Ending) (w' : World) : Prop :=
  e = .returned (.slice (some ⟨g, 0, none⟩) (compactP ts).length c) ∧ HS (OneD g) w [.row (.slice (some ⟨g, 0, none⟩) (compactP ts).length c) 39 6 (compactP ts).length ((compactP ts).flatMap pC)] w'
set_option maxHeartbeats 32000000 in
theorem compact_any {g : Nat} (c : Nat) {ts : List P6} (h0 : 0 < ts.length) (hn : ts.length ≤ 100) (w : World) (hr : w.ownsRow 0 39 6 (.slice (some ⟨g, 0, none⟩) ts.length c) ts.length (ts.flatMap pC)) :
    Calls Try.prog 28 #[.slice (some ⟨g, 0, none⟩) ts.length c] w (CompactR g c ts w) := by
  have HR := Lib.hid hr
  have hcap : ts.length ≤ c := by
    rcases hr.2 with ⟨h2, h3⟩ | ⟨g', cap, cur, hv, hg, hb, h1, h2, h3, h4⟩
    · cases h2
    · injection hv with e1 e2 e3
      omega
  clear hr
  go_enter Try.func28, Try.ntmps28
  have H := HS.start NoD w
  clear H
  have H := HS.rowStart HR.out
  have C := H.cells
  try simp only [cellsOf, cellsM, apartOf, apartM, and_true] at C
  by_cases h2 : ts.length < 2
  · have h2i : (ts.length : Int) < 2 := by omega
    go_wp2_with fail
    go_ret
    have h1 : ts.length = 1 := by omega
    obtain ⟨x, rfl⟩ : ∃ x, ts = [x] := List.length_eq_one_iff.1 h1
    exact ⟨rfl, H⟩
  · have h2i : ¬ (ts.length : Int) < 2 := by omega
    go_wp2_with fail
    go_loopw [3] (fun kk wr => ∃ (k : Nat), kk = .int .i64 k ∧ 1 ≤ k ∧ k ≤ ts.length ∧ Hid (compactP (ts.take k) = ts.take k) ∧ HS (OneD g) w [.row (.slice (some ⟨g, 0, none⟩) ts.length c) 39 6 ts.length (ts.flatMap pC)] wr) (fun kk _ => ts.length - (intOf kk).toNat)
    case atStart => exact ⟨1, rfl, Nat.le_refl _, by omega, (show Hid _ from by cases ts with
                                                                                | nil => rfl
                                                                                | cons x ts => rfl), H⟩
    case round =>
      clear H C
      obtain ⟨k, rfl, hk1, hk, HK, H⟩ := hrel
      skip
      try clear C
      try simp only [World.size_alloc, List.nil_append, List.cons_append, List.append_assoc] at H
      have C := H.cells
      try simp only [cellsOf, cellsM, apartOf, apartM, and_true] at C
      by_cases hlt : k < ts.length
      · obtain ⟨m, rfl⟩ : ∃ m, k = m + 1 := ⟨k - 1, by omega⟩
        have hki : ((m + 1 : Nat) : Int) < ts.length := by omega
        have hmi : (m : Int) < ts.length := by omega
        have hmw : IntKind.i64.wrap (((m + 1 : Nat) : Int) - 1) = (m : Int) := by rw [IntWalk.i64_in _ (by omega)]; omega
        have hmw2 : (((m + 1 : Nat) : Int) - 1) = (m : Int) := by omega
        have hk100 : ((m + 1 : Nat) : Int) ≤ 100 := by omega
        have HST := Lib.hid (compactP_step (ts := ts) (p := m + 1) (by omega) hlt)
        rw [Nat.add_sub_cancel] at HST
        have HCE := Lib.hid (fun (wx : World) (hx : HS (OneD g) w [.row (.slice (some ⟨g, 0, none⟩) ts.length c) 39 6 ts.length (ts.flatMap pC)] wx) (j : Nat) (hj : j < ts.length) => show (∀ i u, (pC ts[j]!)[i]? = some u → wx.cell? ⟨g, j * 6 + i, none⟩ = some u) ∧ g < wx.heap.size from
          ⟨fun i u hu => (hx.rowCells 0 rfl (j * 6 + i) (by have : i < 6 := (List.getElem?_eq_some_iff.1 hu).1; omega)).1.trans (flat_get pC_len ts j i u hj hu), hx.lts _ (List.mem_cons_self ..) g rfl⟩)
        have HCM := Lib.hid (fun wx hx => HCE.out wx hx m (by omega))
        have HCK := Lib.hid (fun wx hx => HCE.out wx hx (m + 1) hlt)
        obtain ⟨x, hx⟩ : ∃ x, x = ts[m]! := ⟨_, rfl⟩
        obtain ⟨y, hy⟩ : ∃ y, y = ts[m + 1]! := ⟨_, rfl⟩
        rw [← hx] at HST HCM
        rw [← hy] at HST HCK
        have HX := Lib.hid hx
        have HY := Lib.hid hy
        clear hx hy
        have heq := fun w => eqlP y x w
        go_upto_region 6 with fail
        skip
        by_cases he : y = x
        · rw [decide_eq_true he] at heq
          have HE := Lib.hid he
          rw [if_pos he, List.append_nil, HK.out] at HST
          clear he
          obtain ⟨x0, x1, x2, x3, x4, x5⟩ := x
          obtain ⟨y0, y1, y2, y3, y4, y5⟩ := y
          simp only [kP] at heq
          refine wp_region_xH (by kernel_rfl) (by kernel_rfl) (by kernel_rfl) (by kernel_rfl) (fun _ => False) (H) ?_
          clear H; intro w1 H hz0 hs0
          try clear C
          try simp only [World.size_alloc, List.nil_append, List.cons_append, List.append_assoc] at H hz0
          clear hz0
          try clear wr
          have C := H.cells
          try simp only [cellsOf, cellsM, apartOf, apartM, and_true] at C
          have Z := H.zs
          try simp only [ltsOf, ltsM, and_true] at Z
          have hz0 := Nat.le_refl w1.heap.size
          obtain ⟨hc0, hgz⟩ := HCM.out _ H
          obtain ⟨hc1, -⟩ := HCK.out _ H
          have c0 : w1.cell? ⟨g, m * 6, none⟩ = some (.int .i64 x0) := hc0 0 _ rfl
          have c1 : w1.cell? ⟨g, m * 6 + 1, none⟩ = some (.int .i64 x1) := hc0 1 _ rfl
          have c2 : w1.cell? ⟨g, m * 6 + 2, none⟩ = some (.int .i64 x2) := hc0 2 _ rfl
          have c3 : w1.cell? ⟨g, m * 6 + 3, none⟩ = some (.int .i64 x3) := hc0 3 _ rfl
          have c4 : w1.cell? ⟨g, m * 6 + 4, none⟩ = some (.int .i64 x4) := hc0 4 _ rfl
          have c5 : w1.cell? ⟨g, m * 6 + 5, none⟩ = some (.int .i64 x5) := hc0 5 _ rfl
          have d0 : w1.cell? ⟨g, (m + 1) * 6, none⟩ = some (.int .i64 y0) := hc1 0 _ rfl
          have d1 : w1.cell? ⟨g, (m + 1) * 6 + 1, none⟩ = some (.int .i64 y1) := hc1 1 _ rfl
          have d2 : w1.cell? ⟨g, (m + 1) * 6 + 2, none⟩ = some (.int .i64 y2) := hc1 2 _ rfl
          have d3 : w1.cell? ⟨g, (m + 1) * 6 + 3, none⟩ = some (.int .i64 y3) := hc1 3 _ rfl
          have d4 : w1.cell? ⟨g, (m + 1) * 6 + 4, none⟩ = some (.int .i64 y4) := hc1 4 _ rfl
          have d5 : w1.cell? ⟨g, (m + 1) * 6 + 5, none⟩ = some (.int .i64 y5) := hc1 5 _ rfl
          clear hc0 hc1
          repeat (first | (refine wpX_skip rfl ?_; go_simp) | (refine wpX_free rfl rfl rfl (fun K hK => ?_); go_step; refine hK _ _ ?_; clear hK K) | (refine wpX_load rfl rfl rfl (by simp [Stay, OneD, NoD, *]) hs0 (by simp [*]) (fun K hK => ?_); go_step; refine hK _ _ ?_; clear hK K))
          (refine wpX_yield rfl rfl ((.bool true)) (fun w hw => by go_simp) ?_; go_simp)
          repeat (first | (refine wpX_skip rfl ?_; go_simp) | (refine wpX_free rfl rfl rfl (fun K hK => ?_); go_step; refine hK _ _ ?_; clear hK K) | (refine wpX_load rfl rfl rfl (by simp [Stay, OneD, NoD, *]) hs0 (by simp [*]) (fun K hK => ?_); go_step; refine hK _ _ ?_; clear hK K))
          (refine wpX_nil ?_; go_step)
          clear c0 d0 c1 d1 c2 d2 c3 d3 c4 d4 c5 d5
          have hcm : ¬ c = m + 1 := by omega
          have hcm2 : m + 1 ≤ c := by omega
          have hcmi : ((m + 1 : Nat) : Int) ≤ c := by omega
          have hmn : m + 1 ≤ ts.length := by omega
          have hmni : ((m + 1 : Nat) : Int) ≤ ts.length := by omega
          obtain ⟨r, hr⟩ : ∃ r, r = ts.length - (m + 1) := ⟨_, rfl⟩
          have hrr : m + 1 + r = ts.length := by omega
          clear heq hgz
          go_upto_region 8 with fail
          rw [← hr]
          have HRR := Lib.hid hrr
          have hr1 : 1 ≤ r := by omega
          have HR0 := Lib.hid hr
          clear hr hcm hcm2 hcmi hmn hmni hmw hmw2 hki hmi
          go_wp2_with fail
          go_loopw [3, 5] (fun kk jj wr => ∃ (k q : Nat) (ys : List P6), kk = .int .i64 k ∧ jj = .int .i64 ((q + 1 : Nat) : Int) ∧ q + 1 ≤ r ∧ m + 1 ≤ k ∧ k ≤ m + 1 + q ∧ ys.length = ts.length ∧ Hid (ys.take k = compactP (ts.take (m + 1 + (q + 1)))) ∧ Hid (∀ j, k ≤ j → j < ts.length → ys[j]! = ts[j]!) ∧ HS (OneD g) w [.row (.slice (some ⟨g, 0, none⟩) ts.length c) 39 6 ts.length (ys.flatMap pC)] wr) (fun _ jj _ => r - (intOf jj).toNat)
          case atStart => exact ⟨m + 1, 0, ts, by go_num, rfl, by omega, Nat.le_refl _, by omega, rfl, (show Hid _ from HST.out.symm), (show Hid _ from fun j _ _ => rfl), H⟩
          case round =>
            clear H C
            obtain ⟨k, q, ys, rfl, rfl, hq, hk1, hk2, hyl, HT, HU, H⟩ := hrel
            skip
            try clear C
            try simp only [World.size_alloc, List.nil_append, List.cons_append, List.append_assoc] at H
            have C := H.cells
            try simp only [cellsOf, cellsM, apartOf, apartM, and_true] at C
            have HYL := Lib.hid hyl
            have hkn : k < ts.length := by omega
            have hkni : (k : Int) < ts.length := by omega
            have hk100i : (k : Int) ≤ 100 := by omega
            have hq100 : ((q + 1 : Nat) : Int) ≤ 100 := by omega
            by_cases hlt2 : q + 1 < r
            · have hqr : ((q + 1 : Nat) : Int) < r := by omega
              have hqr0 : (q : Int) < r := by omega
              have hqw : IntKind.i64.wrap (((q + 1 : Nat) : Int) - 1) = (q : Int) := by rw [IntWalk.i64_in _ (by omega)]; omega
              have hqw2 : (((q + 1 : Nat) : Int) - 1) = (q : Int) := by omega
              have hp1 : m + 1 + (q + 1) < ts.length := by omega
              have HSP := Lib.hid (compactP_step (ts := ts) (p := m + 1 + (q + 1)) (by omega) hp1)
              rw [show m + 1 + (q + 1) - 1 = m + 1 + q by omega] at HSP
              have HCY := Lib.hid (fun (wx : World) (hx : HS (OneD g) w [.row (.slice (some ⟨g, 0, none⟩) ts.length c) 39 6 ts.length (ys.flatMap pC)] wx) => show (∀ i u, (pC ts[m + 1 + (q + 1)]!)[i]? = some u → wx.cell? ⟨g, (m + 1) * 6 + (q + 1) * 6 + i, none⟩ = some u) ∧ (∀ i u, (pC ts[m + 1 + q]!)[i]? = some u → wx.cell? ⟨g, (m + 1) * 6 + q * 6 + i, none⟩ = some u) ∧ (∀ i, i < 6 → ∃ u, wx.cell? ⟨g, k * 6 + i, none⟩ = some u ∧ wx.frozen? ⟨g, k * 6 + i, none⟩ = false) ∧ g < wx.heap.size from by
                refine ⟨fun i u hu => ?_, fun i u hu => ?_, fun i hi => ?_, hx.lts _ (List.mem_cons_self ..) g rfl⟩
                · have hi : i < 6 := (List.getElem?_eq_some_iff.1 hu).1
                  rw [show (m + 1) * 6 + (q + 1) * 6 + i = (m + 1 + (q + 1)) * 6 + i by omega]
                  exact (hx.rowCells 0 rfl _ (by omega)).1.trans (flat_get pC_len ys _ i u (by omega) (by rw [HU.out _ (by omega) (by omega)]; exact hu))
                · have hi : i < 6 := (List.getElem?_eq_some_iff.1 hu).1
                  rw [show (m + 1) * 6 + q * 6 + i = (m + 1 + q) * 6 + i by omega]
                  exact (hx.rowCells 0 rfl _ (by omega)).1.trans (flat_get pC_len ys _ i u (by omega) (by rw [HU.out _ (by omega) (by omega)]; exact hu))
                · have h9 := hx.rowCells 0 rfl (k * 6 + i) (by omega)
                  exact ⟨_, h9.1.trans (List.getElem?_eq_getElem (by rw [flat_len pC_len]; omega)), h9.2⟩)
              obtain ⟨v, hv⟩ : ∃ v, v = ts[m + 1 + q]! := ⟨_, rfl⟩
              obtain ⟨z, hz⟩ : ∃ z, z = ts[m + 1 + (q + 1)]! := ⟨_, rfl⟩
              rw [← hv, ← hz] at HSP HCY
              have HZ := Lib.hid hz
              clear hv hz
              have hne := fun w => neqP z v w
              skip
              by_cases hzv : z = v
              · rw [decide_eq_true hzv] at hne
                rw [if_pos hzv, List.append_nil] at HSP
                clear hzv
                obtain ⟨v0, v1, v2, v3, v4, v5⟩ := v
                obtain ⟨z0, z1, z2, z3, z4, z5⟩ := z
                simp only [kP] at hne
                go_upto_region 11 with fail
                refine wp_region_xH (by kernel_rfl) (by kernel_rfl) (by kernel_rfl) (by kernel_rfl) (fun _ => False) (H) ?_
                clear H; intro w2 H hz0 hs0
                try clear C
                try simp only [World.size_alloc, List.nil_append, List.cons_append, List.append_assoc] at H hz0
                clear hz0
                try clear wr
                have C := H.cells
                try simp only [cellsOf, cellsM, apartOf, apartM, and_true] at C
                have Z := H.zs
                try simp only [ltsOf, ltsM, and_true] at Z
                have hz0 := Nat.le_refl w2.heap.size
                obtain ⟨hc1, hc0, -, hgz⟩ := HCY.out _ H
                have c0 : w2.cell? ⟨g, (m + 1) * 6 + q * 6, none⟩ = some (.int .i64 v0) := hc0 0 _ rfl
                have d0 : w2.cell? ⟨g, (m + 1) * 6 + (q + 1) * 6, none⟩ = some (.int .i64 z0) := hc1 0 _ rfl
                have c1 : w2.cell? ⟨g, (m + 1) * 6 + q * 6 + 1, none⟩ = some (.int .i64 v1) := hc0 1 _ rfl
                have d1 : w2.cell? ⟨g, (m + 1) * 6 + (q + 1) * 6 + 1, none⟩ = some (.int .i64 z1) := hc1 1 _ rfl
                have c2 : w2.cell? ⟨g, (m + 1) * 6 + q * 6 + 2, none⟩ = some (.int .i64 v2) := hc0 2 _ rfl
                have d2 : w2.cell? ⟨g, (m + 1) * 6 + (q + 1) * 6 + 2, none⟩ = some (.int .i64 z2) := hc1 2 _ rfl
                have c3 : w2.cell? ⟨g, (m + 1) * 6 + q * 6 + 3, none⟩ = some (.int .i64 v3) := hc0 3 _ rfl
                have d3 : w2.cell? ⟨g, (m + 1) * 6 + (q + 1) * 6 + 3, none⟩ = some (.int .i64 z3) := hc1 3 _ rfl
                have c4 : w2.cell? ⟨g, (m + 1) * 6 + q * 6 + 4, none⟩ = some (.int .i64 v4) := hc0 4 _ rfl
                have d4 : w2.cell? ⟨g, (m + 1) * 6 + (q + 1) * 6 + 4, none⟩ = some (.int .i64 z4) := hc1 4 _ rfl
                have c5 : w2.cell? ⟨g, (m + 1) * 6 + q * 6 + 5, none⟩ = some (.int .i64 v5) := hc0 5 _ rfl
                have d5 : w2.cell? ⟨g, (m + 1) * 6 + (q + 1) * 6 + 5, none⟩ = some (.int .i64 z5) := hc1 5 _ rfl
                clear hc0 hc1
                repeat (first | (refine wpX_skip rfl ?_; go_simp) | (refine wpX_free rfl rfl rfl (fun K hK => ?_); go_step; refine hK _ _ ?_; clear hK K) | (refine wpX_load rfl rfl rfl (by simp [Stay, OneD, NoD, *]) hs0 (by simp [*]) (fun K hK => ?_); go_step; refine hK _ _ ?_; clear hK K))
                (refine wpX_yield rfl rfl ((.bool false)) (fun w hw => by go_simp) ?_; go_simp)
                repeat (first | (refine wpX_skip rfl ?_; go_simp) | (refine wpX_free rfl rfl rfl (fun K hK => ?_); go_step; refine hK _ _ ?_; clear hK K) | (refine wpX_load rfl rfl rfl (by simp [Stay, OneD, NoD, *]) hs0 (by simp [*]) (fun K hK => ?_); go_step; refine hK _ _ ?_; clear hK K))
                (refine wpX_nil ?_; go_step)
                clear c0 d0 c1 d1 c2 d2 c3 d3 c4 d4 c5 d5 hgz
                go_wp2_with fail
                go_roundw
                case rel => exact ⟨k, q + 1, ys, rfl, by go_num, by omega, by omega, by omega, HYL.out, (show Hid _ from HT.out.trans HSP.out.symm), HU, H⟩
                case measure => simp [intOf]; omega
              · rw [decide_eq_false hzv] at hne
                rw [if_neg hzv] at HSP
                clear hzv
                obtain ⟨v0, v1, v2, v3, v4, v5⟩ := v
                obtain ⟨z0, z1, z2, z3, z4, z5⟩ := z
                simp only [kP] at hne
                skip
                go_upto_region 11 with fail
                refine wp_region_xH (by kernel_rfl) (by kernel_rfl) (by kernel_rfl) (by kernel_rfl) (fun _ => False) (H) ?_
                clear H; intro w3 H hz0 hs0
                try clear C
                try simp only [World.size_alloc, List.nil_append, List.cons_append, List.append_assoc] at H hz0
                clear hz0
                try clear wr
                have C := H.cells
                try simp only [cellsOf, cellsM, apartOf, apartM, and_true] at C
                have Z := H.zs
                try simp only [ltsOf, ltsM, and_true] at Z
                have hz0 := Nat.le_refl w3.heap.size
                obtain ⟨hc1, hc0, -, hgz⟩ := HCY.out _ H
                have c0 : w3.cell? ⟨g, (m + 1) * 6 + q * 6, none⟩ = some (.int .i64 v0) := hc0 0 _ rfl
                have d0 : w3.cell? ⟨g, (m + 1) * 6 + (q + 1) * 6, none⟩ = some (.int .i64 z0) := hc1 0 _ rfl
                have c1 : w3.cell? ⟨g, (m + 1) * 6 + q * 6 + 1, none⟩ = some (.int .i64 v1) := hc0 1 _ rfl
                have d1 : w3.cell? ⟨g, (m + 1) * 6 + (q + 1) * 6 + 1, none⟩ = some (.int .i64 z1) := hc1 1 _ rfl
                have c2 : w3.cell? ⟨g, (m + 1) * 6 + q * 6 + 2, none⟩ = some (.int .i64 v2) := hc0 2 _ rfl
                have d2 : w3.cell? ⟨g, (m + 1) * 6 + (q + 1) * 6 + 2, none⟩ = some (.int .i64 z2) := hc1 2 _ rfl
                have c3 : w3.cell? ⟨g, (m + 1) * 6 + q * 6 + 3, none⟩ = some (.int .i64 v3) := hc0 3 _ rfl
                have d3 : w3.cell? ⟨g, (m + 1) * 6 + (q + 1) * 6 + 3, none⟩ = some (.int .i64 z3) := hc1 3 _ rfl
                have c4 : w3.cell? ⟨g, (m + 1) * 6 + q * 6 + 4, none⟩ = some (.int .i64 v4) := hc0 4 _ rfl
                have d4 : w3.cell? ⟨g, (m + 1) * 6 + (q + 1) * 6 + 4, none⟩ = some (.int .i64 z4) := hc1 4 _ rfl
                have c5 : w3.cell? ⟨g, (m + 1) * 6 + q * 6 + 5, none⟩ = some (.int .i64 v5) := hc0 5 _ rfl
                have d5 : w3.cell? ⟨g, (m + 1) * 6 + (q + 1) * 6 + 5, none⟩ = some (.int .i64 z5) := hc1 5 _ rfl
                clear hc0 hc1
                repeat (first | (refine wpX_skip rfl ?_; go_simp) | (refine wpX_free rfl rfl rfl (fun K hK => ?_); go_step; refine hK _ _ ?_; clear hK K) | (refine wpX_load rfl rfl rfl (by simp [Stay, OneD, NoD, *]) hs0 (by simp [*]) (fun K hK => ?_); go_step; refine hK _ _ ?_; clear hK K))
                (refine wpX_yield rfl rfl ((.bool true)) (fun w hw => by go_simp) ?_; go_simp)
                repeat (first | (refine wpX_skip rfl ?_; go_simp) | (refine wpX_free rfl rfl rfl (fun K hK => ?_); go_step; refine hK _ _ ?_; clear hK K) | (refine wpX_load rfl rfl rfl (by simp [Stay, OneD, NoD, *]) hs0 (by simp [*]) (fun K hK => ?_); go_step; refine hK _ _ ?_; clear hK K))
                (refine wpX_nil ?_; go_step)
                clear c0 d0 c1 d1 c2 d2 c3 d3 c4 d4 c5 d5 hgz
                go_upto_region 12 with fail
                obtain ⟨hc1, -, hkk, hgz⟩ := HCY.out _ H
                have d0 : w3.cell? ⟨g, (m + 1) * 6 + (q + 1) * 6, none⟩ = some (.int .i64 z0) := hc1 0 _ rfl
                have d1 : w3.cell? ⟨g, (m + 1) * 6 + (q + 1) * 6 + 1, none⟩ = some (.int .i64 z1) := hc1 1 _ rfl
                have d2 : w3.cell? ⟨g, (m + 1) * 6 + (q + 1) * 6 + 2, none⟩ = some (.int .i64 z2) := hc1 2 _ rfl
                have d3 : w3.cell? ⟨g, (m + 1) * 6 + (q + 1) * 6 + 3, none⟩ = some (.int .i64 z3) := hc1 3 _ rfl
                have d4 : w3.cell? ⟨g, (m + 1) * 6 + (q + 1) * 6 + 4, none⟩ = some (.int .i64 z4) := hc1 4 _ rfl
                have d5 : w3.cell? ⟨g, (m + 1) * 6 + (q + 1) * 6 + 5, none⟩ = some (.int .i64 z5) := hc1 5 _ rfl
                obtain ⟨u0k, k0, f0⟩ : ∃ u, w3.cell? ⟨g, k * 6, none⟩ = some u ∧ w3.frozen? ⟨g, k * 6, none⟩ = false := hkk 0 (by omega)
                obtain ⟨u1k, k1, f1⟩ : ∃ u, w3.cell? ⟨g, k * 6 + 1, none⟩ = some u ∧ w3.frozen? ⟨g, k * 6 + 1, none⟩ = false := hkk 1 (by omega)
                obtain ⟨u2k, k2, f2⟩ : ∃ u, w3.cell? ⟨g, k * 6 + 2, none⟩ = some u ∧ w3.frozen? ⟨g, k * 6 + 2, none⟩ = false := hkk 2 (by omega)
                obtain ⟨u3k, k3, f3⟩ : ∃ u, w3.cell? ⟨g, k * 6 + 3, none⟩ = some u ∧ w3.frozen? ⟨g, k * 6 + 3, none⟩ = false := hkk 3 (by omega)
                obtain ⟨u4k, k4, f4⟩ : ∃ u, w3.cell? ⟨g, k * 6 + 4, none⟩ = some u ∧ w3.frozen? ⟨g, k * 6 + 4, none⟩ = false := hkk 4 (by omega)
                obtain ⟨u5k, k5, f5⟩ : ∃ u, w3.cell? ⟨g, k * 6 + 5, none⟩ = some u ∧ w3.frozen? ⟨g, k * 6 + 5, none⟩ = false := hkk 5 (by omega)
                clear hc1 hkk
                go_upto_region 13 with fail
                generalize hwb : World.setCell _ _ _ = w9
                have H9 := HS.eqW hwb (H.rowSetsZ 0 (pC ⟨z0, z1, z2, z3, z4, z5⟩) (k * 6) rfl)
                simp only [List.set_cons_zero] at H9
                rw [setsZ_pC ys k _ (by rw [HYL.out]; exact hkn)] at H9
                clear H C hwb
                clear d0 k0 f0 d1 k1 f1 d2 k2 f2 d3 k3 f3 d4 k4 f4 d5 k5 f5 hgz
                have H := H9
                clear H9
                skip
                try clear C
                try simp only [World.size_alloc, List.nil_append, List.cons_append, List.append_assoc] at H
                have C := H.cells
                try simp only [cellsOf, cellsM, apartOf, apartM, and_true] at C
                go_wp2_with fail
                go_roundw
                case rel =>
                  refine ⟨k + 1, q + 1, ys.set k ⟨z0, z1, z2, z3, z4, z5⟩, by go_num, by go_num, by omega, by omega, by omega, by rw [List.length_set]; exact HYL.out, (show Hid _ from ?_), (show Hid _ from fun j hj hjn => ?_), H⟩
                  · have hkl : k < ys.length := by rw [HYL.out]; exact hkn
                    rw [show m + 1 + (q + 1 + 1) = m + 1 + (q + 1) + 1 by omega, HSP.out, ← HT.out, List.take_add_one, List.getElem?_set_self hkl, List.take_set_of_le (Nat.le_refl _)]; rfl
                  · rw [getElem!_pos _ j (by rw [List.length_set, HYL.out]; exact hjn), List.getElem_set_ne (by omega), ← getElem!_pos ys j (by rw [HYL.out]; exact hjn)]
                    exact HU.out j (by omega) hjn
                case measure => simp [intOf]; omega
            · skip
              have hqr : q + 1 = r := by omega
              have hqri : ¬ ((q + 1 : Nat) : Int) < r := by omega
              have HTT := Lib.hid (show ys.take k = compactP ts from by
                have h1 := HT.out
                rw [show m + 1 + (q + 1) = ts.length by have := HRR.out; omega, List.take_length] at h1
                exact h1)
              obtain ⟨r2, hr2⟩ : ∃ r2, r2 = ts.length - k := ⟨_, rfl⟩
              have hr2p : 0 < r2 := by omega
              obtain ⟨zs, hzl, hcl⟩ : ∃ zs : List Value, zs.length = r2 * 6 ∧ ∀ ty d, (Builtin.clear_ #[33] ty #[.slice (some ⟨g, k * 6, none⟩) r2 d]).run Try.prog wr = .ok (.tuple #[]) (wr.setCells g (k * 6) zs) := by
                exact run_clear_Pl wr g (k * 6) r2 hr2p (fun j hj => by
                  rw [(H.rowCells 0 rfl (k * 6 + j) (by omega)).1, List.getElem?_eq_getElem (by rw [flat_len pC_len, HYL.out]; omega)]; rfl) (fun j hj => (H.rowCells 0 rfl (k * 6 + j) (by omega)).2)
              have hkc : ¬ c = k := by omega
              have hkc2 : k ≤ c := by omega
              have hkci : (k : Int) ≤ c := by omega
              have hknn : k ≤ ts.length := by omega
              have hknni : (k : Int) ≤ ts.length := by omega
              have hr3 : ts.length - k = r2 := hr2.symm
              clear hr2
              go_wp2_with fail
              go_ret
              have H9 := (H.rowSetsZ 0 zs (k * 6) rfl).rowCut 0 rfl (m := k) hknn
              simp only [List.set_cons_zero] at H9
              rw [setsZ_take _ _ _ _ (Nat.le_refl _), flat_takeP, HTT.out] at H9
              have hkk : k = (compactP ts).length := by rw [← HTT.out, List.length_take, HYL.out]; omega
              obtain ⟨wz, hwz⟩ : ∃ wz, wz = wr.setCells g (k * 6) zs := ⟨_, rfl⟩
              rw [← hwz] at H9 ⊢
              rw [hkk] at H9
              refine ⟨?_, H9⟩
              rw [← hkk]; rfl
        · rw [decide_eq_false he] at heq
          rw [if_neg he, HK.out] at HST
          clear he
          obtain ⟨x0, x1, x2, x3, x4, x5⟩ := x
          obtain ⟨y0, y1, y2, y3, y4, y5⟩ := y
          simp only [kP] at heq
          skip
          refine wp_region_xH (by kernel_rfl) (by kernel_rfl) (by kernel_rfl) (by kernel_rfl) (fun _ => False) (H) ?_
          clear H; intro w4 H hz0 hs0
          try clear C
          try simp only [World.size_alloc, List.nil_append, List.cons_append, List.append_assoc] at H hz0
          clear hz0
          try clear wr
          have C := H.cells
          try simp only [cellsOf, cellsM, apartOf, apartM, and_true] at C
          have Z := H.zs
          try simp only [ltsOf, ltsM, and_true] at Z
          have hz0 := Nat.le_refl w4.heap.size
          obtain ⟨hc0, hgz⟩ := HCM.out _ H
          obtain ⟨hc1, -⟩ := HCK.out _ H
          have c0 : w4.cell? ⟨g, m * 6, none⟩ = some (.int .i64 x0) := hc0 0 _ rfl
          have c1 : w4.cell? ⟨g, m * 6 + 1, none⟩ = some (.int .i64 x1) := hc0 1 _ rfl
          have c2 : w4.cell? ⟨g, m * 6 + 2, none⟩ = some (.int .i64 x2) := hc0 2 _ rfl
          have c3 : w4.cell? ⟨g, m * 6 + 3, none⟩ = some (.int .i64 x3) := hc0 3 _ rfl
          have c4 : w4.cell? ⟨g, m * 6 + 4, none⟩ = some (.int .i64 x4) := hc0 4 _ rfl
          have c5 : w4.cell? ⟨g, m * 6 + 5, none⟩ = some (.int .i64 x5) := hc0 5 _ rfl
          have d0 : w4.cell? ⟨g, (m + 1) * 6, none⟩ = some (.int .i64 y0) := hc1 0 _ rfl
          have d1 : w4.cell? ⟨g, (m + 1) * 6 + 1, none⟩ = some (.int .i64 y1) := hc1 1 _ rfl
          have d2 : w4.cell? ⟨g, (m + 1) * 6 + 2, none⟩ = some (.int .i64 y2) := hc1 2 _ rfl
          have d3 : w4.cell? ⟨g, (m + 1) * 6 + 3, none⟩ = some (.int .i64 y3) := hc1 3 _ rfl
          have d4 : w4.cell? ⟨g, (m + 1) * 6 + 4, none⟩ = some (.int .i64 y4) := hc1 4 _ rfl
          have d5 : w4.cell? ⟨g, (m + 1) * 6 + 5, none⟩ = some (.int .i64 y5) := hc1 5 _ rfl
          clear hc0 hc1
          repeat (first | (refine wpX_skip rfl ?_; go_simp) | (refine wpX_free rfl rfl rfl (fun K hK => ?_); go_step; refine hK _ _ ?_; clear hK K) | (refine wpX_load rfl rfl rfl (by simp [Stay, OneD, NoD, *]) hs0 (by simp [*]) (fun K hK => ?_); go_step; refine hK _ _ ?_; clear hK K))
          (refine wpX_yield rfl rfl ((.bool false)) (fun w hw => by go_simp) ?_; go_simp)
          repeat (first | (refine wpX_skip rfl ?_; go_simp) | (refine wpX_free rfl rfl rfl (fun K hK => ?_); go_step; refine hK _ _ ?_; clear hK K) | (refine wpX_load rfl rfl rfl (by simp [Stay, OneD, NoD, *]) hs0 (by simp [*]) (fun K hK => ?_); go_step; refine hK _ _ ?_; clear hK K))
          (refine wpX_nil ?_; go_step)
          clear c0 d0 c1 d1 c2 d2 c3 d3 c4 d4 c5 d5
          go_wp2_with fail
          go_roundw
          case rel => exact ⟨m + 1 + 1, by go_num, by omega, by omega, (show Hid _ from by rw [HST.out, List.take_add_one (i := m + 1), List.getElem?_eq_getElem hlt, HY.out, getElem!_pos ts (m + 1) hlt]; rfl), H⟩
          case measure => simp [intOf]; omega
      · skip
        have hkl : k = ts.length := by omega
        subst hkl
        have hkk := HK.out
        rw [List.take_length] at hkk
        go_wp2_with fail
        go_ret
        unfold CompactR
        rw [hkk]
        exact ⟨rfl, H⟩
end Go.Proofs.Ytdhnpjgnnfgklaa
