/- Plan (chapter 39): searches in lists of ints; what rows and ranks save (both packages). -/
import Derived.Test.YtdhnpjgnnfgklaaPlJ
namespace Go.Proofs.Ytdhnpjgnnfgklaa
set_option linter.unusedSimpArgs false
set_option linter.unusedVariables false
open Go.RowKit
set_option maxRecDepth 100000
attribute [local irreducible] wpX wpF Calls
attribute [local go_sem] run_mkMapG

/-- Where a number lies in a list. -/
def FindI (f : Int) (fs : List Int) (r : Int) : Prop := (r = -1 ∧ ∀ i, i < fs.length → fs[i]! ≠ f) ∨ ∃ i : Nat, i < fs.length ∧ r = i ∧ fs[i]! = f ∧ ∀ j, j < i → fs[j]! ≠ f
def FindAtI (f : Int) (fs : List Int) (w : World) (e : Ending) (w' : World) : Prop := ∃ r : Int, e = .returned (.int .i64 r) ∧ FindI f fs r ∧ Below w.heap.size w w'
theorem FindI.mem {f : Int} {fs : List Int} {r : Int} (h : FindI f fs r) : decide (0 ≤ r) = fs.contains f := by
  rw [Bool.eq_iff_iff, decide_eq_true_iff, List.contains_iff_mem]
  rcases h with ⟨rfl, h⟩ | ⟨i, hi, rfl, h, -⟩
  · constructor
    · intro h0; omega
    · intro hm
      obtain ⟨i, hi, e⟩ := List.mem_iff_getElem.1 hm
      exact absurd (by rw [getElem!_pos fs i hi]; exact e) (h i hi)
  · constructor
    · intro _; rw [← h, getElem!_pos fs i hi]; exact List.getElem_mem hi
    · intro _; omega
set_option maxHeartbeats 4000000 in
theorem indexI (f : Int) {sa : Option Addr} (c : Nat) {fs : List Int} (hx : fs.length ≤ 9223372036854775807) (w : World) (hl : Lies w w.heap.size sa 1 fs.length (fun j => iC fs[j]!)) :
    Calls Try.prog 79 #[.slice sa fs.length c, .int .i64 f] w (FindAtI f fs w) := by
  have HL := Lib.hid hl
  clear hl
  go_enter Try.func79, Try.ntmps79
  have H := HS.start NoD w
  go_wp2_with fail
  go_loopw [8] (fun i wr => ∃ (j : Nat), i = .int .i64 j ∧ j ≤ fs.length ∧ Hid (∀ i, i < j → fs[i]! ≠ f) ∧ HS NoD w [] wr) (fun i _ => fs.length - (intOf i).toNat)
  case atStart => exact ⟨0, rfl, Nat.zero_le _, (show Hid _ from fun i hi => absurd hi (Nat.not_lt_zero _)), H⟩
  case round =>
    clear H
    obtain ⟨j, rfl, hj, HF, H⟩ := hrel
    skip
    by_cases hlt : j < fs.length
    · obtain ⟨b, o, rfl, hb, hc⟩ := (H.lies HL.out).at hlt
      have hji : (j : Int) < fs.length := by omega
      obtain ⟨g, hg⟩ : ∃ g, g = fs[j]! := ⟨_, rfl⟩
      have HG := Lib.hid hg
      rw [← hg] at hc
      have c0 : wr.cell? ⟨b, o + j * 1, none⟩ = some (.int .i64 g) := hc 0 _ rfl
      rw [show o + j * 1 = o + j by omega] at c0
      clear hc hg hb
      by_cases hfg : f = g
      · have HQ := Lib.hid hfg.symm
        go_wp2_with fail
        go_ret
        exact ⟨_, rfl, .inr ⟨j, hlt, rfl, by rw [← HG.out]; exact HQ.out, HF.out⟩, H.done⟩
      · have HQ := Lib.hid (show g ≠ f from fun h => hfg h.symm)
        have hfb : (f == g) = false := beq_eq_false_iff_ne.2 hfg
        go_wp2_with fail
        go_roundw
        case rel =>
          refine ⟨j + 1, by go_num, by omega, (show Hid _ from fun i hi => ?_), H⟩
          by_cases e : i = j
          · subst e; rw [← HG.out]; exact HQ.out
          · exact HF.out i (by omega)
        case measure => simp [intOf]; omega
    · go_wp2_with fail
      go_ret
      exact ⟨-1, rfl, .inl ⟨rfl, fun i hi => HF.out i (by omega)⟩, H.done⟩
theorem hasI (f : Int) {sa : Option Addr} (c : Nat) {fs : List Int} (hx : fs.length ≤ 9223372036854775807) (w : World) (hl : Lies w w.heap.size sa 1 fs.length (fun j => iC fs[j]!)) :
    Calls Try.prog 57 #[.slice sa fs.length c, .int .i64 f] w (Gives (.bool (fs.contains f)) w) := by
  have HF := Lib.hid (fun wx hx9 => indexI f (sa := sa) c hx wx hx9)
  have HL := Lib.hid hl
  clear hl
  go_enter Try.func57, Try.ntmps57
  have H := HS.start NoD w
  go_wp2_with fail
  refine (HF.out _ (H.liesUp HL.out)).mono ?_
  rintro _ w2 ⟨r, rfl, hr, hb⟩
  replace H := H.below hb
  have HR := Lib.hid hr.mem
  clear hb HF hr
  skip
  go_wp2_with fail
  go_ret
  exact ⟨by rw [← HR.out]; first | rfl | go_simp, H.done⟩
/-! ### sums over the needs -/
def LossOk (l : List Nd) : Prop := l.length ≤ 20 ∧ ∀ x ∈ l, 0 ≤ x.loss ∧ x.loss ≤ 1099511627776
theorem LossOk.nn {l : List Nd} (h : LossOk l) : NonNeg l := fun x hx => (h.2 x hx).1
theorem zip_take {l : List Nd} {k : Nat} (hk : k < l.length) : l.zipIdx.take (k + 1) = l.zipIdx.take k ++ [(l[k]!, k)] := by
  rw [List.take_add_one, List.getElem?_zipIdx, List.getElem?_eq_getElem hk, getElem!_pos l k hk]
  simp
theorem zip_full (l : List Nd) : l.zipIdx.take l.length = l.zipIdx := by
  rw [List.take_of_length_le]; simp
def onW (rows : List Int) (rs : List P6) (z : Nd × Nat) : Bool := inR rs z.1.p || rows.contains (z.2 : Int)
def wk (l : List Nd) (rows : List Int) (rs : List P6) (k : Nat) : Int := sumOn (onW rows rs) lossZ (l.zipIdx.take k)
theorem wk_succ {l : List Nd} {k : Nat} (rows : List Int) (rs : List P6) (hk : k < l.length) : wk l rows rs (k + 1) = wk l rows rs k + if (inR rs l[k]!.p || rows.contains (k : Int)) = true then l[k]!.loss else 0 := by
  unfold wk
  rw [zip_take hk, sumOn_append]
  simp [sumOn, onW, lossZ]
theorem wk_full (l : List Nd) (rows : List Int) (rs : List P6) : wk l rows rs l.length = worthP l rows rs := by
  unfold wk; rw [zip_full]; rfl
theorem mem_bangN {l : List Nd} {k : Nat} (hk : k < l.length) : l[k]! ∈ l := by rw [getElem!_pos l k hk]; exact List.getElem_mem hk
theorem wk_bound {l : List Nd} (h : LossOk l) (rows : List Int) (rs : List P6) : ∀ k, k ≤ l.length → 0 ≤ wk l rows rs k ∧ wk l rows rs k ≤ k * 1099511627776
  | 0, _ => by simp [wk, sumOn]
  | k + 1, hk => by
    have ih := wk_bound h rows rs k (by omega)
    rw [wk_succ rows rs (by omega)]
    have := h.2 _ (mem_bangN (l := l) (k := k) (by omega))
    split
    · push_cast; omega
    · push_cast; omega
set_option maxHeartbeats 4000000 in
theorem worth1_any (x : P6) (bN : Nat) (p0 p1 p2 p3 p4 p5 pl : Int) (w : World) (hb : Blk w bN #[.int .i64 p0, .int .i64 p1, .int .i64 p2, .int .i64 p3, .int .i64 p4, .int .i64 p5, .int .i64 pl] 41) :
    Calls Try.prog 56 #[.agg (pC x).toArray, .pointer (some ⟨bN, 0, none⟩)] w (Gives (.bool (decide (rankP x = rankP ⟨p0, p1, p2, p3, p4, p5⟩))) w) := by
  obtain ⟨q0, q1, q2, q3, q4, q5⟩ := x
  have HR := Lib.hid (fun W => prank_any ⟨p0, p1, p2, p3, p4, p5⟩ W)
  have HR2 := Lib.hid (fun W => prank_any ⟨q0, q1, q2, q3, q4, q5⟩ W)
  have heq := fun w => eqlP (rankP ⟨q0, q1, q2, q3, q4, q5⟩) (rankP ⟨p0, p1, p2, p3, p4, p5⟩) w
  show Calls Try.prog 56 #[v6 q0 q1 q2 q3 q4 q5, .pointer (some ⟨bN, 0, none⟩)] w _
  obtain ⟨t, ht⟩ : ∃ t, t = decide (rankP ⟨q0, q1, q2, q3, q4, q5⟩ = rankP ⟨p0, p1, p2, p3, p4, p5⟩) := ⟨_, rfl⟩
  rw [← ht] at heq ⊢
  clear ht
  have HB := Lib.hid hb
  go_enter Try.func56, Try.ntmps56
  have H := HS.start NoD w
  go_upto_region 1 with fail
  generalize hwb : w.alloc _ = w1
  replace H := HS.eqW hwb H.alloc
  try simp only [World.size_alloc, List.nil_append, List.cons_append, List.append_assoc] at H
  clear hwb
  generalize w.heap.size = bX at H ⊢
  try clear C
  have C := H.cells
  try simp only [cellsOf, cellsM, apartOf, apartM, and_true] at C
  have hbl := HB.out.lt
  have HCN := Lib.hid (fun (wx : World) (hx : HS NoD w [.blk bX #[.int .i64 q0, .int .i64 q1, .int .i64 q2, .int .i64 q3, .int .i64 q4, .int .i64 q5] 39] wx) => show (∀ o, wx.cell? ⟨bN, o, none⟩ = #[.int .i64 p0, .int .i64 p1, .int .i64 p2, .int .i64 p3, .int .i64 p4, .int .i64 p5, .int .i64 pl][o]?) ∧ bN < wx.heap.size ∧ ¬ bN = bX from ⟨fun o => (hx.was (p := ⟨bN, o, none⟩) hbl (fun h => h)).trans (HB.out.cell o), Nat.lt_of_lt_of_le hbl hx.size, fun e => by have := hx.mine 0 rfl; omega⟩)
  generalize hx : rankP ⟨p0, p1, p2, p3, p4, p5⟩ = x at HR heq
  generalize hy : rankP ⟨q0, q1, q2, q3, q4, q5⟩ = y at HR2 heq
  clear hx hy
  replace HR := Lib.hid (show ∀ W, Calls Try.prog 25 #[v6 p0 p1 p2 p3 p4 p5] W (Gives (v6 x.a x.b x.c x.d x.e x.f) W) from HR.out)
  replace HR2 := Lib.hid (show ∀ W, Calls Try.prog 25 #[v6 q0 q1 q2 q3 q4 q5] W (Gives (v6 y.a y.b y.c y.d y.e y.f) W) from HR2.out)
  replace heq := (show ∀ w, (binOp .eql 39 (v6 y.a y.b y.c y.d y.e y.f) (v6 x.a x.b x.c x.d x.e x.f)).run Try.prog w = .ok (.bool t) w from heq)
  clear hbl
  refine wp_region_xH (by kernel_rfl) (by kernel_rfl) (by kernel_rfl) (by kernel_rfl) (fun _ => False) (H) ?_
  clear H; intro w2 H hz0 hs0
  try clear C
  try simp only [World.size_alloc, List.nil_append, List.cons_append, List.append_assoc] at H hz0
  clear hz0
  try clear w1
  have C := H.cells
  try simp only [cellsOf, cellsM, apartOf, apartM, and_true] at C
  have Z := H.zs
  try simp only [ltsOf, ltsM, and_true] at Z
  have hz0 := Nat.le_refl w2.heap.size
  obtain ⟨-, hb0, -⟩ := HCN.out _ H
  repeat (first | (refine wpX_skip rfl ?_; go_simp) | (refine wpX_free rfl rfl rfl (fun K hK => ?_); go_step; refine hK _ _ ?_; clear hK K) | (refine wpX_load rfl rfl rfl (by simp [Stay, OneD, NoD, *]) hs0 (by simp [*]) (fun K hK => ?_); go_step; refine hK _ _ ?_; clear hK K))
  refine wpX_eff rfl rfl (fun _ _ => ?_)
  go_step
  refine (HR2.out _).mono ?_
  rintro _ w3 ⟨rfl, hb⟩
  replace hs0 := hs0.belowS hz0 hb
  replace hz0 := Nat.le_trans hz0 hb.size
  replace H := H.below hb
  clear hb
  try clear C
  have C := H.cells
  try simp only [cellsOf, cellsM, apartOf, apartM, and_true] at C
  try clear w2
  dsimp only
  go_step
  refine ⟨hs0, ?_⟩
  obtain ⟨cN, -, hnN⟩ := HCN.out _ H
  repeat (first | (refine wpX_skip rfl ?_; go_simp) | (refine wpX_free rfl rfl rfl (fun K hK => ?_); go_step; refine hK _ _ ?_; clear hK K) | (refine wpX_load rfl rfl rfl (by simp [Stay, OneD, NoD, *]) hs0 (by simp [*]) (fun K hK => ?_); go_step; refine hK _ _ ?_; clear hK K))
  refine wpX_eff rfl rfl (fun _ _ => ?_)
  go_step
  refine (HR.out _).mono ?_
  rintro _ w4 ⟨rfl, hb⟩
  replace hs0 := hs0.belowS hz0 hb
  replace hz0 := Nat.le_trans hz0 hb.size
  replace H := H.below hb
  clear hb
  try clear C
  have C := H.cells
  try simp only [cellsOf, cellsM, apartOf, apartM, and_true] at C
  try clear w3
  dsimp only
  go_step
  refine ⟨hs0, ?_⟩
  repeat (first | (refine wpX_skip rfl ?_; go_simp) | (refine wpX_free rfl rfl rfl (fun K hK => ?_); go_step; refine hK _ _ ?_; clear hK K) | (refine wpX_load rfl rfl rfl (by simp [Stay, OneD, NoD, *]) hs0 (by simp [*]) (fun K hK => ?_); go_step; refine hK _ _ ?_; clear hK K))
  (refine wpX_yield rfl rfl ((.bool t)) (fun w hw => by go_simp) ?_; go_simp)
  repeat (first | (refine wpX_skip rfl ?_; go_simp) | (refine wpX_free rfl rfl rfl (fun K hK => ?_); go_step; refine hK _ _ ?_; clear hK K) | (refine wpX_load rfl rfl rfl (by simp [Stay, OneD, NoD, *]) hs0 (by simp [*]) (fun K hK => ?_); go_step; refine hK _ _ ?_; clear hK K))
  (refine wpX_nil ?_; go_step)
  go_wp2_with fail
  go_ret
  exact ⟨rfl, H.done⟩
set_option maxHeartbeats 8000000 in
theorem pworth_any {l : List Nd} (hok : LossOk l) {sa sb sc : Option Addr} (c d e : Nat) {rows : List Int} {rs : List P6} (hr : rows.length ≤ 100000) (hs : rs.length ≤ 100000) (w : World) (hl : Lies w w.heap.size sa 7 l.length (fun j => ndC l[j]!))
    (hlr : Lies w w.heap.size sb 1 rows.length (fun j => iC rows[j]!)) (hls : Lies w w.heap.size sc 6 rs.length (fun j => pC rs[j]!)) :
    Calls Try.prog 32 #[.slice sa l.length c, .slice sb rows.length d, .slice sc rs.length e] w (Gives (.int .i64 (worthP l rows rs)) w) := by
  have HL := Lib.hid hl
  have HLR := Lib.hid hlr
  have HLS := Lib.hid hls
  have hx := hok.1
  have HOK := Lib.hid hok
  clear hl hlr hls hok
  go_enter Try.func32, Try.ntmps32
  have H := HS.start NoD w
  go_wp2_with fail
  go_loopw [7, 13] (fun ss j wr => ∃ (s : Int) (k : Nat), ss = .int .i64 s ∧ j = .int .i64 k ∧ k ≤ l.length ∧ Hid (s = wk l rows rs k) ∧ HS NoD w [] wr) (fun _ j _ => l.length - (intOf j).toNat)
  case atStart => exact ⟨0, 0, rfl, rfl, Nat.zero_le _, (show Hid _ from rfl), H⟩
  case round =>
    clear H
    obtain ⟨s, k, rfl, rfl, hk, HS0, H⟩ := hrel
    skip
    by_cases hlt : k < l.length
    · have hki : (k : Int) < l.length := by omega
      have hsb : 0 ≤ s ∧ s ≤ 21990232555520 := by have h1 := wk_bound HOK.out rows rs k hk; rw [← HS0.out] at h1; omega
      obtain ⟨b, o, rfl, hb, hc⟩ := (H.lies HL.out).at hlt
      obtain ⟨q, hq⟩ : ∃ q, q = l[k]! := ⟨_, rfl⟩
      rw [← hq] at hc
      have HQ := Lib.hid hq
      clear hq
      have hq0 := HOK.out.2 _ (mem_bangN hlt)
      rw [← HQ.out] at hq0
      have HW := Lib.hid (wk_succ rows rs hlt)
      obtain ⟨⟨p0, p1, p2, p3, p4, p5⟩, pl⟩ := q
      have c0 : wr.cell? ⟨b, o + k * 7, none⟩ = some (.int .i64 p0) := hc 0 _ rfl
      have c1 : wr.cell? ⟨b, o + k * 7 + 1, none⟩ = some (.int .i64 p1) := hc 1 _ rfl
      have c2 : wr.cell? ⟨b, o + k * 7 + 2, none⟩ = some (.int .i64 p2) := hc 2 _ rfl
      have c3 : wr.cell? ⟨b, o + k * 7 + 3, none⟩ = some (.int .i64 p3) := hc 3 _ rfl
      have c4 : wr.cell? ⟨b, o + k * 7 + 4, none⟩ = some (.int .i64 p4) := hc 4 _ rfl
      have c5 : wr.cell? ⟨b, o + k * 7 + 5, none⟩ = some (.int .i64 p5) := hc 5 _ rfl
      have c6 : wr.cell? ⟨b, o + k * 7 + 6, none⟩ = some (.int .i64 pl) := hc 6 _ rfl
      clear hc hb
      dsimp only at hq0
      go_upto_region 5 with fail
      clear c0 c1 c2 c3 c4 c5 c6
      generalize hwb : wr.alloc _ = w1
      replace H := HS.eqW hwb H.alloc
      try simp only [World.size_alloc, List.nil_append, List.cons_append, List.append_assoc] at H
      clear hwb
      generalize wr.heap.size = bN at H ⊢
      try clear C
      try clear wr
      have C := H.cells
      try simp only [cellsOf, cellsM, apartOf, apartM, and_true] at C
      have HCT := Lib.hid (fun wx (hx : Lies wx wx.heap.size sc 6 rs.length (fun j => pC rs[j]!)) (hb : Blk wx bN #[.int .i64 p0, .int .i64 p1, .int .i64 p2, .int .i64 p3, .int .i64 p4, .int .i64 p5, .int .i64 pl] 41) =>
        (show Calls Try.prog 55 #[.slice sc rs.length e, .func (.func 56) #[] #[.pointer (some ⟨bN, 0, none⟩)]] wx (Gives (.bool (inR rs ⟨p0, p1, p2, p3, p4, p5⟩)) wx) from
        containsP 56 (fun _ _ => rfl) #[.pointer (some ⟨bN, 0, none⟩)] (fun r => decide (rankP r = rankP ⟨p0, p1, p2, p3, p4, p5⟩)) (sa := sc) e (xs := rs) hs wx hx (fun W x hB => worth1_any x bN p0 p1 p2 p3 p4 p5 pl W (Blk.below hb hB))))
      go_wp2_with fail
      refine (HCT.out _ (H.liesUp HLS.out) (H.at 0 rfl)).mono ?_
      rintro _ wc ⟨rfl, hb⟩
      clear HCT
      replace H := H.below hb
      clear hb
      skip
      try clear C
      try simp only [World.size_alloc, List.nil_append, List.cons_append, List.append_assoc] at H
      have C := H.cells
      try simp only [cellsOf, cellsM, apartOf, apartM, and_true] at C
      cases hin : inR rs ⟨p0, p1, p2, p3, p4, p5⟩ with
      | true =>
        have HIN := Lib.hid hin
        clear hin
        go_wp2_with fail
        go_roundw
        case rel =>
          refine ⟨s + pl, k + 1, by go_num, by go_num, by omega, (show Hid _ from ?_), H.less (by repeat (first | exact .slnil | refine .cons_cons _ ?_ | refine .cons _ ?_))⟩
          rw [HW.out, ← HQ.out, HIN.out, Bool.true_or, if_pos rfl, HS0.out]; rfl
        case measure => simp [intOf]; omega
      | false =>
        have HIN := Lib.hid hin
        clear hin
        go_wp2_with fail
        refine (hasI (k : Int) d (by omega) _ (H.liesUp HLR.out)).mono ?_
        rintro _ wd ⟨rfl, hb⟩
        replace H := H.below hb
        clear hb
        skip
        try clear C
        try simp only [World.size_alloc, List.nil_append, List.cons_append, List.append_assoc] at H
        have C := H.cells
        try simp only [cellsOf, cellsM, apartOf, apartM, and_true] at C
        cases hrw : rows.contains (k : Int) with
        | true =>
          have HRW := Lib.hid hrw
          clear hrw
          go_wp2_with fail
          go_roundw
          case rel =>
            refine ⟨s + pl, k + 1, by go_num, by go_num, by omega, (show Hid _ from ?_), H.less (by repeat (first | exact .slnil | refine .cons_cons _ ?_ | refine .cons _ ?_))⟩
            rw [HW.out, ← HQ.out, HRW.out, Bool.or_true, if_pos rfl, HS0.out]; rfl
          case measure => simp [intOf]; omega
        | false =>
          have HRW := Lib.hid hrw
          clear hrw
          go_wp2_with fail
          go_roundw
          case rel =>
            refine ⟨s, k + 1, rfl, by go_num, by omega, (show Hid _ from ?_), H.less (by repeat (first | exact .slnil | refine .cons_cons _ ?_ | refine .cons _ ?_))⟩
            rw [HW.out, ← HQ.out, HIN.out, HRW.out, HS0.out]; simp; trivial
          case measure => simp [intOf]; omega
    · have hkl : k = l.length := by omega
      subst hkl
      go_wp2_with fail
      go_ret
      exact ⟨by rw [← wk_full, ← HS0.out]; rfl, H.done⟩
end Go.Proofs.Ytdhnpjgnnfgklaa
