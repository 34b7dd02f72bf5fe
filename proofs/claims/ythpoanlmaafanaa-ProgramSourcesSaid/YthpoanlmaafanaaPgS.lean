/- program.Source: by which operation a word was written. -/
import Derived.Test.YthpoanlmaafanaaPgD
namespace Go.Proofs.Ythpoanlmaafanaa
set_option linter.unusedSimpArgs false
set_option linter.unusedVariables false
open Go.RowKit
set_option maxRecDepth 100000
attribute [local go_sem] run_mkMapG
attribute [local irreducible] wpX wpF Calls

def noF : PgF := fun _ => none
/-- Operations carried out one after the other, the first one with the number k. -/
def runF : Nat → List Ox → PgF → PgF
  | _, [], f => f
  | k, x :: l, f => runF (k + 1) l (doF k x f)
theorem runF_snoc (x : Ox) : ∀ (l : List Ox) (k : Nat) (f : PgF), runF k (l ++ [x]) f = doF ((k + l.length : Nat) : Int) x (runF k l f)
  | [], k, f => rfl
  | y :: l, k, f => by
    show runF (k + 1) (l ++ [x]) _ = _
    rw [runF_snoc x l]
    show doF _ x (runF (k + 1) l _) = doF _ x (runF (k + 1) l _)
    rw [List.length_cons, show k + 1 + l.length = k + (l.length + 1) by omega]
def sourceP (l : List Ox) (i : Int) : Int × Bool :=
  if i < 0 ∨ (l.length : Int) ≤ i then (0, false)
  else if (l[i.toNat]!).k ≠ 1 ∨ meansO l[i.toNat]! = false then (0, false)
  else match runF 0 (l.take i.toNat) noF ((l[i.toNat]!).p, (l[i.toNat]!).g) with
    | none => (0, false)
    | some q => (q.get (l[i.toNat]!).w, true)
theorem oxCells {l : List Ox} {w : World} {B : Nat} {sa : Option Addr} (h : Lies w B sa 6 l.length (fun j => oxC l[j]!)) {j : Nat} (hj : j < l.length) : ∃ b o, sa = some ⟨b, o, none⟩ ∧ b < B ∧ w.cell? ⟨b, o + j * 6, none⟩ = some (.int .i64 (l[j]!).k) ∧ w.cell? ⟨b, o + j * 6 + 1, none⟩ = some (.int .i64 (l[j]!).p) ∧ w.cell? ⟨b, o + j * 6 + 2, none⟩ = some (.int .i64 (l[j]!).g) ∧ w.cell? ⟨b, o + j * 6 + 3, none⟩ = some (.int .i64 (l[j]!).w) ∧ w.cell? ⟨b, o + j * 6 + 4, none⟩ = some (.int .i64 (l[j]!).o) ∧ w.cell? ⟨b, o + j * 6 + 5, none⟩ = some (.slice (l[j]!).sa (l[j]!).n (l[j]!).c) := by
  obtain ⟨b, o, e, hb, hc⟩ := h.at hj
  exact ⟨b, o, e, hb, hc 0 _ rfl, hc 1 _ rfl, hc 2 _ rfl, hc 3 _ rfl, hc 4 _ rfl, hc 5 _ rfl⟩
theorem take_snocX {l : List Ox} {j : Nat} (h : j < l.length) : l.take (j + 1) = l.take j ++ [l[j]!] := by
  rw [List.take_add_one, List.getElem?_eq_getElem h, getElem!_pos l j h]; rfl
theorem runF_step {l : List Ox} {j : Nat} (h : j < l.length) : runF 0 (l.take (j + 1)) noF = doF j l[j]! (runF 0 (l.take j) noF) := by
  rw [take_snocX h, runF_snoc, List.length_take, Nat.min_eq_left (by omega), Nat.zero_add]
set_option maxHeartbeats 8000000 in
theorem source_any {l : List Ox} (hx : l.length ≤ 1000000) (i : Int) {sa : Option Addr} {c : Nat} (hc : l.length ≤ c) (w : World) (hl : Lies w w.heap.size sa 6 l.length (fun j => oxC l[j]!)) :
    Calls Try.prog 12 #[.slice sa l.length c, .int .i64 i] w (Gives (.tuple #[.int .i64 (sourceP l i).1, .bool (sourceP l i).2]) w) := by
  obtain ⟨R, hR⟩ : ∃ R, R = sourceP l i := ⟨_, rfl⟩
  rw [← hR]
  unfold sourceP at hR
  by_cases h0 : i < 0
  · rw [if_pos (.inl h0)] at hR
    subst hR
    clear hl
    go_enter Try.func12, Try.ntmps12
    have H := HS.start NoD w
    go_wp2_with fail
    go_ret2
    exact ⟨rfl, H.done⟩
  by_cases h1 : (l.length : Int) ≤ i
  · rw [if_pos (.inr h1)] at hR
    subst hR
    clear hl
    go_enter Try.func12, Try.ntmps12
    have H := HS.start NoD w
    go_wp2_with fail
    go_ret2
    exact ⟨rfl, H.done⟩
  rw [if_neg (by omega)] at hR
  obtain ⟨m, rfl⟩ : ∃ m : Nat, i = m := ⟨i.toNat, by omega⟩
  have hm : m < l.length := by omega
  rw [show ((m : Nat) : Int).toNat = m from rfl] at hR
  clear h0 h1
  obtain ⟨b, o, rfl, hb, c0, c1, c2, c3, c4, c5⟩ := oxCells hl hm
  have HL := Lib.hid hl
  clear hl
  obtain ⟨x, hxm⟩ : ∃ x, x = l[m]! := ⟨_, rfl⟩
  rw [← hxm] at hR c0 c1 c2 c3 c4 c5
  have HME := Lib.hid (fun w => means_any x w)
  have HMK := Lib.hid (fun h => means_k (x := x) h)
  have hmi : (m : Int) < l.length := by omega
  have hmc : (m : Int) < c := by omega
  have hmn : ¬ l.length ≤ m := by omega
  have hm0 : ¬ (m : Int) < 0 := by omega
  have hmj : ¬ (l.length : Int) ≤ m := by omega
  clear hxm
  generalize hmb : meansO x = mb at HME hR
  have HMB := Lib.hid hmb
  clear hmb
  obtain ⟨xk, xp, xg, xw, xo, xsa, xn, xc⟩ := x
  dsimp only at hR c0 c1 c2 c3 c4 c5 HMK
  have hnb : (b = w.heap.size) = False := eq_false (by omega)
  have hnb' : (w.heap.size = b) = False := eq_false (by omega)
  by_cases k1 : xk = 1
  case neg =>
    rw [if_pos (.inl k1)] at hR
    subst hR
    have k1b : (xk != 1) = true := bne_iff_ne.2 k1
    go_enter Try.func12, Try.ntmps12
    have H := HS.start NoD w
    go_wp2_with fail
    go_ret2
    exact ⟨rfl, H.done⟩
  subst k1
  cases mb with
  | false =>
    rw [if_pos (.inr rfl)] at hR
    subst hR
    go_enter Try.func12, Try.ntmps12
    have H := HS.start NoD w
    go_wp2_with fail
    refine (HME.out _).mono ?_
    rintro _ w1 ⟨rfl, hb⟩
    replace H := H.below hb
    clear hb
    try clear C
    try simp only [World.size_alloc, List.nil_append, List.cons_append, List.append_assoc] at H
    have C := H.cells
    try simp only [cellsOf, cellsM, apartOf, apartM, and_true] at C
    dsimp only
    go_wp2_with fail
    go_ret2
    exact ⟨rfl, H.done⟩
  | true =>
    rw [if_neg (by simp)] at hR
    have HR := Lib.hid hR
    have HBB := Lib.hid hb
    have HC1 := Lib.hid c1
    have HC2 := Lib.hid c2
    have HC3 := Lib.hid c3
    clear hR
    go_enter Try.func12, Try.ntmps12
    have H := HS.start NoD w
    go_wp2_with fail
    refine (HME.out _).mono ?_
    rintro _ w1 ⟨rfl, hb⟩
    replace H := H.below hb
    clear hb
    try clear C
    try simp only [World.size_alloc, List.nil_append, List.cons_append, List.append_assoc] at H
    have C := H.cells
    try simp only [cellsOf, cellsM, apartOf, apartM, and_true] at C
    dsimp only
    clear HME c0 c1 c2 c3 c4 c5 hnb hnb' hb
    go_upto_region 4 with fail
    generalize hwb : World.alloc _ _ = w3
    replace H := HS.eqW hwb H.allocObj
    clear hwb
    simp only [List.nil_append] at H
    generalize (w1).heap.size = bM at H ⊢
    try clear C
    skip
    try clear C
    try simp only [World.size_alloc, List.nil_append, List.cons_append, List.append_assoc] at H
    have C := H.cells
    try simp only [cellsOf, cellsM, apartOf, apartM, and_true] at C
    go_wp2_with fail
    go_loopw [7, 8, 40] (fun _ _ jj wr => ∃ (j : Nat) (es : Array MapEntry) (ck : Nat) (M : List ((Int × Int) × Value)), jj = .int .i64 j ∧ j ≤ m ∧ Hid (MapG kU es ck M) ∧ Hid (∀ x, getG x M = (runF 0 (l.take j) noF x).map vQ) ∧ HS NoD w [.obj bM (.map es ck)] wr) (fun _ _ jj _ => m - (intOf jj).toNat)
    case atStart => exact ⟨0, #[], 0, [], rfl, Nat.zero_le _, MapG.nil kU, fun _ => rfl, H⟩
    case round =>
      clear H C
      obtain ⟨j, es, ck, M, rfl, hj, HM, HF, H⟩ := hrel
      skip
      try clear C
      try simp only [World.size_alloc, List.nil_append, List.cons_append, List.append_assoc] at H
      have C := H.cells
      try simp only [cellsOf, cellsM, apartOf, apartM, and_true] at C
      by_cases hlt : j < m
      · have hjl : j < l.length := by omega
        obtain ⟨b', o', e9, -, d0, d1, d2, d3, d4, d5⟩ := oxCells (H.lies HL.out) hjl
        obtain ⟨rfl, rfl⟩ : b = b' ∧ o = o' := by simpa using e9
        have HRS := Lib.hid (runF_step hjl)
        obtain ⟨y, hy⟩ : ∃ y, y = l[j]! := ⟨_, rfl⟩
        rw [← hy] at HRS d0 d1 d2 d3 d4 d5
        clear hy e9
        have HDA := Lib.hid (fun f w hm => do_any (b := bM) (f := f) j y w hm)
        obtain ⟨yk, yp, yg, yw, yo, ysa, yn, yc⟩ := y
        dsimp only at d0 d1 d2 d3 d4 d5
        have hbl : b < wr.heap.size := Nat.lt_of_lt_of_le HBB.out H.size
        have q1 : (b = wr.heap.size) = False := eq_false (by omega)
        have q2 : (wr.heap.size = b) = False := eq_false (by omega)
        go_upto_region 7 with fail
        clear d0 d1 d2 d3 d4 d5 q1 q2 hbl
        generalize hwb : wr.alloc _ = w2
        replace H := HS.eqW hwb H.alloc
        try simp only [World.size_alloc, List.nil_append, List.cons_append, List.append_assoc] at H
        clear hwb
        generalize wr.heap.size = bO at H ⊢
        try clear C
        try clear wr
        have C := H.cells
        try simp only [cellsOf, cellsM, apartOf, apartM, and_true] at C
        go_wp2_with fail
        refine (HDA.out _ _ ⟨es, ck, M, H.at 0 rfl, HM.out, HF.out⟩).mono ?_
        rintro _ w8 ⟨rfl, hm8, hg8⟩
        obtain ⟨es8, c8, M8, H8, hM8, hf8⟩ := H.mapAt 0 rfl hg8 hm8
        clear H C hm8 hg8 HDA
        simp only [List.set_cons_zero] at H8
        have H := H8
        clear H8
        skip
        try clear C
        try simp only [World.size_alloc, List.nil_append, List.cons_append, List.append_assoc] at H
        have C := H.cells
        try simp only [cellsOf, cellsM, apartOf, apartM, and_true] at C
        go_wp2_with fail
        go_roundw
        case rel => exact ⟨j + 1, es8, c8, M8, by go_num, by omega, hM8, (show Hid _ from fun x => by rw [HRS.out]; exact hf8 x), HS.less H (by repeat (first | exact .slnil | refine .cons_cons _ ?_ | refine .cons _ ?_))⟩
        case measure => simp [intOf]; omega
      · obtain rfl : j = m := by omega
        clear hlt hj
        have c1 := (H.was (p := ⟨b, o + j * 6 + 1, none⟩) HBB.out id).trans HC1.out
        have c2 := (H.was (p := ⟨b, o + j * 6 + 2, none⟩) HBB.out id).trans HC2.out
        have c3 := (H.was (p := ⟨b, o + j * 6 + 3, none⟩) HBB.out id).trans HC3.out
        have hbl : b < wr.heap.size := Nat.lt_of_lt_of_le HBB.out H.size
        have q1 : (b = wr.heap.size) = False := eq_false (by omega)
        have q2 : (wr.heap.size = b) = False := eq_false (by omega)
        have HT : Try.prog.underlying 51 = some (.map 40 54) := by kernel_rfl
        have HE : ∀ w, (zeroValue 54).run Try.prog w = .ok (.agg #[.int .i64 0, .int .i64 0, .int .i64 0, .int .i64 0]) w := fun w => by rfl
        obtain ⟨q0, q1', q2', q3, ok, hqv, hqo, hqf⟩ : ∃ q0 q1 q2 q3 ok, (getG (xp, xg) M).getD (.agg #[.int .i64 0, .int .i64 0, .int .i64 0, .int .i64 0]) = .agg #[.int .i64 q0, .int .i64 q1, .int .i64 q2, .int .i64 q3] ∧ (getG (xp, xg) M).isSome = ok ∧ runF 0 (l.take j) noF (xp, xg) = if ok = true then some ⟨q0, q1, q2, q3⟩ else none := by
          have h1 := HF.out (xp, xg)
          cases hq : runF 0 (l.take j) noF (xp, xg) with
          | none => rw [hq] at h1; rw [h1]; exact ⟨0, 0, 0, 0, false, rfl, rfl, rfl⟩
          | some q => rw [hq] at h1; rw [h1]; obtain ⟨q0, q1, q2, q3⟩ := q; exact ⟨q0, q1, q2, q3, true, rfl, rfl, rfl⟩
        have HLK := fun (wx : World) (hbx : wx.heap[bM]? = some (.map es ck)) => run_lookup_G HT keyU HE hbx HM.out (xp, xg)
        rw [hqv, hqo] at HLK
        have HQF := Lib.hid hqf
        clear hqv hqo hqf
        simp only [kU] at HLK
        have l1 := HLK wr (H.at 0 rfl)
        have l2 := HLK wr.drew (H.drew.at 0 rfl)
        have l3 := HLK (wr.alloc (.cells #[.int .i64 0, .int .i64 0, .int .i64 0, .int .i64 0] 54)) (H.alloc.at 0 rfl)
        have l4 := HLK (wr.alloc (.cells #[.int .i64 0, .int .i64 0, .int .i64 0, .int .i64 0] 54)).drew (H.alloc.drew.at 0 rfl)
        have l5 := HLK (wr.drew.alloc (.cells #[.int .i64 0, .int .i64 0, .int .i64 0, .int .i64 0] 54)) (H.drew.alloc.at 0 rfl)
        clear HLK
        go_upto_region 9 with fail
        go_region
        all_goals
          clear l1 l2 l3 l4 l5 c1 c2 c3 q1 q2 hbl C
          generalize hwb : World.drew _ = w9
          replace H := HS.eqW hwb H.alloc.drew
          clear hwb
          simp only [List.nil_append, List.cons_append] at H
          generalize wr.heap.size = bY at H ⊢
          have c3 := (H.was (p := ⟨b, o + j * 6 + 3, none⟩) HBB.out id).trans HC3.out
          have hkk := HMK.out HMB.out
          have hw : xw = 0 ∨ xw = 1 ∨ xw = 2 ∨ xw = 3 := by omega
          clear hkk HMK HMB
          skip
          try clear C
          try simp only [World.size_alloc, List.nil_append, List.cons_append, List.append_assoc] at H
          have C := H.cells
          try simp only [cellsOf, cellsM, apartOf, apartM, and_true] at C
          cases ok with
          | false =>
            have HG := Lib.hid (show R = (0, false) by rw [HR.out, HQF.out]; rfl)
            go_wp2_with fail
            go_ret2
            exact ⟨by rw [HG.out]; rfl, H.done⟩
          | true =>
            have HG := Lib.hid (show R = (Q4.get ⟨q0, q1', q2', q3⟩ xw, true) by rw [HR.out, HQF.out]; rfl)
            rcases hw with hw | hw | hw | hw
            all_goals
              subst hw
              skip
              go_wp2_with fail
              go_ret2
              exact ⟨by rw [HG.out]; rfl, H.done⟩
end Go.Proofs.Ythpoanlmaafanaa
