/- Plan (chapter 39): mill.Shape, mill.Needs. -/
import Derived.Test.YtdhnpjgnnfgklaaPlT
import Derived.Test.YtdhnpjgnnfgklaaShape
namespace Go.Proofs.Ytdhnpjgnnfgklaa
set_option linter.unusedSimpArgs false
set_option linter.unusedVariables false
open Go.RowKit
set_option maxRecDepth 100000
attribute [local irreducible] wpX wpF Calls
attribute [local go_sem] run_mkMapG

section
variable {P : Program} {ops : Array Oper} {St D : Nat → Prop} {W w0 : World} {Q : Act → Fl → List Item → Prop} {o : Oper} {rest : List Oper} {a : Act} {F : Fl} {L : List Item}
theorem wpH_look (hw : Region.wanted o (yielded ops a.tmps) = true) {t : TypeId} {x : Operand} {b k : Nat} (ho : o.op = .load t x) (hx : a.eval x = .pointer (some ⟨b, k, none⟩)) (hag : ∀ w, (isAgg t).run P w = .ok false w) {cs : Array Value} {ty : TypeId} {v : Value} (hF : F b = some (cs, ty)) (hv : cs[k]? = some v)
    (h : ∀ K : Act → World → Prop, (∀ a w, wpH P St D W w0 ops Q rest a F L → K a w) → K (a.put o.dst v) w0) : wpH P St D W w0 ops Q (o :: rest) a F L := by
  have hrun : ∀ w : World, (execOp a.eval o).run P w = ((load ⟨b, k, none⟩).run P w).andThen fun u w' => .ok (.value u) w' := fun w => by
    unfold execOp
    rw [ho]
    simp only [hx, Sem.run_bind, Sem.run_pure, Instr.loadAt, Instr.sureAddr, loadVar, hag, Result.andThen_ok, Bool.false_eq_true, if_false]
  unfold wpH stepH
  rw [if_pos hw, show fkG o.op = .pure from by rw [ho]; rfl]
  refine fun _ => ⟨v, .inr ⟨by rw [ho]; rfl, b, cs, ty, hF, fun w hb => ?_, fun w u w' hn hr => ?_⟩, h (fun a _ => wpH P St D W w0 ops Q rest a F L) (fun _ _ h => h)⟩
  · rw [hrun, run_load, hb.cell, hv]; rfl
  · rw [hrun, run_load] at hr
    have h1 : w.cell? ⟨b, k, none⟩ = none := by unfold World.cell?; simp [hn]
    have h2 : w.farLoad P ⟨b, k, none⟩ (Mode.plain == Mode.atomic) = .error (w.noCell ⟨b, k, none⟩ "load: no such cell") := by unfold World.farLoad; simp [hn]
    rw [h1, h2] at hr
    cases hr
end
/-! ### With the bundle -/
section
variable {P : Program} {D : Nat → Prop} {W : World} {L : List Item}
end
/-- What mill.Shape makes. -/
structure MS (s0 s1 s2 s4 : Int) : Prop where
  h0 : 0 ≤ s0 ∧ s0 < 2
  h1 : 0 ≤ s1 ∧ s1 < 2
  h2 : 0 ≤ s2 ∧ s2 < 2
  h4 : 1 ≤ s4 ∧ s4 ≤ 3
theorem MS.sv {s0 s1 s2 s4 : Int} (h : MS s0 s1 s2 s4) : SV s0 s1 s2 1 s4 2 := by
  obtain ⟨h0, h1, h2, h4⟩ := h
  constructor <;> omega
def MSPost (B b : Nat) (w : World) (e : Ending) (w' : World) : Prop :=
  ∃ s0 s1 s2 s4, e = .returned (v6 s0 s1 s2 1 s4 2) ∧ MS s0 s1 s2 s4 ∧ Dice B w' b ∧ Chg b w w'
theorem mshape_any (B b : Nat) (w : World) (hd : Dice B w b) (hB : B ≤ w.heap.size) : Calls Try.prog 10 #[.pointer (some ⟨b, 0, none⟩)] w (MSPost B b w) := by
  go_enter Try.func10, Try.ntmps10
  have H := HS.startDice hd hB
  have C := H.cells
  try simp only [cellsOf, cellsM, apartOf, apartM, and_true] at C
  clear hd
  go_wp2_with fail
  refine (next_any 2 (by omega) B b _ (H.alloc.at 0 rfl)).mono ?_
  rintro _ w1 ⟨s0, rfl, hs0, hd, hg⟩
  replace H := (H.alloc).diceAt 0 rfl hg hd
  clear hg hd
  try clear C
  try simp only [World.size_alloc, List.nil_append, List.cons_append, List.append_assoc] at H
  generalize w.heap.size = bR at H ⊢
  have C := H.cells
  try simp only [cellsOf, cellsM, apartOf, apartM, and_true] at C
  dsimp only
  replace hs0 : 0 ≤ s0 ∧ s0 < 2 := ⟨hs0.1, hs0.lt (by decide)⟩
  go_wp2_with fail
  refine (next_any 2 (by omega) B b _ (H.at 0 rfl)).mono ?_
  rintro _ w2 ⟨s1, rfl, hs1, hd, hg⟩
  replace H := (H).diceAt 0 rfl hg hd
  clear hg hd
  try clear C
  try simp only [World.size_alloc, List.nil_append, List.cons_append, List.append_assoc] at H
  try clear w1
  have C := H.cells
  try simp only [cellsOf, cellsM, apartOf, apartM, and_true] at C
  dsimp only
  replace hs1 : 0 ≤ s1 ∧ s1 < 2 := ⟨hs1.1, hs1.lt (by decide)⟩
  go_wp2_with fail
  refine (next_any 2 (by omega) B b _ (H.at 0 rfl)).mono ?_
  rintro _ w3 ⟨s2, rfl, hs2, hd, hg⟩
  replace H := (H).diceAt 0 rfl hg hd
  clear hg hd
  try clear C
  try simp only [World.size_alloc, List.nil_append, List.cons_append, List.append_assoc] at H
  try clear w2
  have C := H.cells
  try simp only [cellsOf, cellsM, apartOf, apartM, and_true] at C
  dsimp only
  replace hs2 : 0 ≤ s2 ∧ s2 < 2 := ⟨hs2.1, hs2.lt (by decide)⟩
  go_wp2_with fail
  refine (next_any 2 (by omega) B b _ (H.at 0 rfl)).mono ?_
  rintro _ w4 ⟨s3, rfl, hs3, hd, hg⟩
  replace H := (H).diceAt 0 rfl hg hd
  clear hg hd
  try clear C
  try simp only [World.size_alloc, List.nil_append, List.cons_append, List.append_assoc] at H
  try clear w3
  have C := H.cells
  try simp only [cellsOf, cellsM, apartOf, apartM, and_true] at C
  dsimp only
  have hq : s3.tdiv 2 = 0 := by
    have h1 := hs3.1
    have h2 := hs3.lt (by decide)
    rcases (show s3 = 0 ∨ s3 = 1 by omega) with rfl | rfl <;> rfl
  clear hs3
  go_wp2_with fail
  refine (next_any 3 (by omega) B b _ (H.at 0 rfl)).mono ?_
  rintro _ w5 ⟨s4, rfl, hs4, hd, hg⟩
  replace H := (H).diceAt 0 rfl hg hd
  clear hg hd
  try clear C
  try simp only [World.size_alloc, List.nil_append, List.cons_append, List.append_assoc] at H
  try clear w4
  have C := H.cells
  try simp only [cellsOf, cellsM, apartOf, apartM, and_true] at C
  dsimp only
  replace hs4 : 0 ≤ s4 ∧ s4 < 3 := ⟨hs4.1, hs4.lt (by decide)⟩
  go_wp2_with fail
  generalize hwb : (((((w5.setCell _ _).setCell _ _).setCell _ _).setCell _ _).setCell _ _).setCell _ _ = w6
  replace H := HS.eqW hwb (H.putAll (i := 1) rfl (vs := [.int .i64 s0, .int .i64 s1, .int .i64 s2, .int .i64 1, .int .i64 (1 + s4), .int .i64 2]) rfl rfl)
  simp only [List.nil_append, List.cons_append, List.append_assoc, List.set_cons_succ, List.set_cons_zero] at H
  clear hwb
  try clear C
  try clear w5
  have C := H.cells
  try simp only [cellsOf, cellsM, apartOf, apartM, and_true] at C
  refine bodyPost_ret (by simp [results, Try.results10, go_sem, C]; try rfl) rfl ?_
  exact ⟨s0, s1, s2, 1 + s4, rfl, ⟨hs0, hs1, hs2, by omega⟩, H.at 0 rfl, H.doneDice⟩


def NextK (n : Int) (B b : Nat) (w : World) (e : Ending) (w' : World) : Prop := ∃ v : Int, e = .returned (.int .i64 v) ∧ Nextly n v ∧ HS (OneD b) w [.dice B b] w'
theorem nextK_any (n : Int) (hn : n ≤ 1099511627776) (B b : Nat) (w : World) (hd : Dice B w b) (hB : B ≤ w.heap.size) : Calls Try.prog 23 #[.pointer (some ⟨b, 0, none⟩), .int .i64 n] w (NextK n B b w) := by
  refine (next_any n hn B b w hd).mono ?_
  rintro _ w' ⟨v, rfl, hv, h1, h2⟩
  exact ⟨v, rfl, hv, (HS.startDice hd hB).diceAt 0 rfl h2 h1⟩
theorem loss_at (v : Int) (hv : 0 ≤ v ∧ v < 1000) (j : Nat) (hj : j < 7) : ∃ k : Int, (#[.int .i64 0, .int .i64 1, .int .i64 5, .int .i64 5, .int .i64 7, .int .i64 100, .int .i64 v] : Array Value)[j]? = some (.int .i64 k) ∧ 0 ≤ k ∧ k ≤ 999 := by
  have : j = 0 ∨ j = 1 ∨ j = 2 ∨ j = 3 ∨ j = 4 ∨ j = 5 ∨ j = 6 := by omega
  rcases this with rfl | rfl | rfl | rfl | rfl | rfl | rfl <;> exact ⟨_, rfl, by omega, by omega⟩
theorem PV.col0 {a0 a1 a2 a3 a4 a5 p0 p1 p2 p3 p4 p5 : Int} (h : PV a0 a1 a2 a3 a4 a5 p0 p1 p2 p3 p4 p5) : PV a0 a1 a2 a3 a4 a5 p0 p1 p2 p3 p4 0 := ⟨h.h0, h.h1, h.h2, h.h3, h.h4, by have := pw_pos a5; omega⟩
/-- Needs as the mill makes them. -/
def NdsOk (s : P6) (l : List Nd) : Prop := ∀ i, i < l.length → goodN s l i ∧ l[i]!.loss ≤ 999
theorem NdsOk.snoc {s : P6} {l : List Nd} {x : Nd} (h : NdsOk s l) (hp : PV s.a s.b s.c s.d s.e s.f x.p.a x.p.b x.p.c x.p.d x.p.e x.p.f) (hf : x.p.f = 0) (h0 : 0 ≤ x.loss) (h9 : x.loss ≤ 999) (hn : (l.any fun y => decide (y.p = x.p)) = false) : NdsOk s (l ++ [x]) := by
  intro i hi
  rw [List.length_append, List.length_singleton] at hi
  by_cases e : i < l.length
  · have e1 : (l ++ [x])[i]! = l[i]! := by rw [getElem!_pos (l ++ [x]) i (by rw [List.length_append]; omega), getElem!_pos l i e, List.getElem_append_left e]
    have e2 : (l ++ [x]).take i = l.take i := by rw [List.take_append_of_le_length (by omega)]
    have h1 := h i e
    unfold goodN at h1 ⊢
    rw [e1, e2]; exact h1
  · have e0 : i = l.length := by omega
    subst e0
    have e1 : (l ++ [x])[l.length]! = x := by rw [getElem!_pos (l ++ [x]) l.length (by rw [List.length_append]; simp)]; simp
    unfold goodN
    rw [e1, List.take_append_of_le_length (Nat.le_refl _), List.take_length]
    refine ⟨⟨hp, hf, h0, by omega, fun y hy e => ?_⟩, h9⟩
    rw [List.any_eq_false] at hn
    exact hn y hy (decide_eq_true e)
theorem NdsOk.valid {s : P6} {l : List Nd} (h : NdsOk s l) (hs : SV s.a s.b s.c s.d s.e s.f) (hl : l.length ≤ 8) : validN s l := ⟨hs, by omega, fun i hi => (h i hi).1⟩
theorem any_take {l : List Nd} {i : Nat} (f : Nd → Bool) (hi : i < l.length) : (l.take (i + 1)).any f = ((l.take i).any f || f l[i]!) := by
  rw [List.take_add_one, List.getElem?_eq_getElem hi, List.any_append, getElem!_pos l i hi]; simp
def NeedsPost (s : P6) (B b : Nat) (w : World) (e : Ending) (w' : World) : Prop := ∃ (l : List Nd) (sa : Option Addr) (c : Nat), e = .returned (.slice sa l.length c) ∧ NdsOk s l ∧ l.length ≤ 8 ∧ HS (OneD b) w [.dice B b, .row (.slice sa l.length c) 41 7 l.length (l.flatMap ndC)] w'
set_option maxHeartbeats 16000000 in
theorem mneeds_any {a0 a1 a2 a3 a4 a5 : Int} (hs : SV a0 a1 a2 a3 a4 a5) (B b : Nat) (w : World) (hd : Dice B w b) (hB : B ≤ w.heap.size) :
    Calls Try.prog 11 #[.pointer (some ⟨b, 0, none⟩), v6 a0 a1 a2 a3 a4 a5] w (NeedsPost ⟨a0, a1, a2, a3, a4, a5⟩ B b w) := by
  have HSV := Lib.hid hs
  clear hs
  go_enter Try.func11, Try.ntmps11
  have H := HS.startDice hd hB
  have C := H.cells
  try simp only [cellsOf, cellsM, apartOf, apartM, and_true] at C
  clear hd
  go_upto_region 1 with fail
  generalize hwb : w.alloc _ = w1
  replace H := HS.eqW hwb H.alloc
  try simp only [World.size_alloc, List.nil_append, List.cons_append, List.append_assoc] at H
  clear hwb
  generalize w.heap.size = bS at H ⊢
  try clear C
  have C := H.cells
  try simp only [cellsOf, cellsM, apartOf, apartM, and_true] at C
  have hnr := H.nilRow 41 7
  clear H
  have H := hnr
  clear hnr
  try simp only [List.nil_append, List.cons_append] at H
  try clear C
  try simp only [World.size_alloc, List.nil_append, List.cons_append, List.append_assoc] at H
  have C := H.cells
  try simp only [cellsOf, cellsM, apartOf, apartM, and_true] at C
  go_wp2_with fail
  refine (next_any 9 (by omega) B b _ (H.at 0 rfl)).mono ?_
  rintro _ w2 ⟨n0, rfl, hn0, hd, hg⟩
  replace H := (H).diceAt 0 rfl hg hd
  clear hg hd
  try clear C
  try simp only [World.size_alloc, List.nil_append, List.cons_append, List.append_assoc] at H
  try clear w1
  have C := H.cells
  try simp only [cellsOf, cellsM, apartOf, apartM, and_true] at C
  dsimp only
  replace hn0 : 0 ≤ n0 ∧ n0 < 9 := ⟨hn0.1, hn0.lt (by decide)⟩
  go_wp2_with fail
  go_loopw [5, 6] (fun u nn wr => ∃ (n : Int) (xs : List Nd), nn = .int .i64 n ∧ 0 ≤ n ∧ xs.length + n ≤ 8 ∧ Hid (NdsOk ⟨a0, a1, a2, a3, a4, a5⟩ xs) ∧ HS (OneD b) w [.dice B b, .blk bS #[.int .i64 a0, .int .i64 a1, .int .i64 a2, .int .i64 a3, .int .i64 a4, .int .i64 a5] 28, .row u 41 7 xs.length (xs.flatMap ndC)] wr) (fun _ nn _ => (intOf nn).toNat)
  case atStart => exact ⟨n0, [], rfl, hn0.1, by simp; omega, (show Hid _ from fun i hi => absurd hi (Nat.not_lt_zero _)), H⟩
  case round =>
    clear H C w2
    obtain ⟨n, xs, rfl, hn1, hn2, HA, H⟩ := hrel
    obtain ⟨s5, c5, rfl⟩ := ownsRow_slice (H.at 2 rfl)
    skip
    try clear C
    try simp only [World.size_alloc, List.nil_append, List.cons_append, List.append_assoc] at H
    have C := H.cells
    try simp only [cellsOf, cellsM, apartOf, apartM, and_true] at C
    by_cases hk : 0 < n
    · go_wp2_with fail
      refine (place_any HSV.out B b _ (H.at 0 rfl)).mono ?_
      rintro _ w3 ⟨p0, p1, p2, p3, p4, p5, rfl, hp, hd, hg⟩
      replace H := (H).diceAt 0 rfl hg hd
      clear hg hd
      try clear C
      try simp only [World.size_alloc, List.nil_append, List.cons_append, List.append_assoc] at H
      try clear wr
      have C := H.cells
      try simp only [cellsOf, cellsM, apartOf, apartM, and_true] at C
      dsimp only
      have HP := Lib.hid hp.col0
      clear hp
      go_upto_region 6 with fail
      generalize hwb : w3.alloc _ = w4
      replace H := HS.eqW hwb H.alloc
      try simp only [World.size_alloc, List.nil_append, List.cons_append, List.append_assoc] at H
      clear hwb
      generalize w3.heap.size = b7 at H ⊢
      try clear C
      try clear w3
      have C := H.cells
      try simp only [cellsOf, cellsM, apartOf, apartM, and_true] at C
      go_upto_region 7 with fail
      generalize hwb : World.setCell _ _ _ = w71
      have H9 := HS.eqW hwb (H.setAt 3 rfl (o := 5) (v := .int .i64 0))
      clear H C hwb
      simp only [List.set_cons_succ, List.set_cons_zero] at H9
      have H9 := (show HS (OneD b) w [.dice B b, .blk bS #[.int .i64 a0, .int .i64 a1, .int .i64 a2, .int .i64 a3, .int .i64 a4, .int .i64 a5] 28, .row (.slice s5 xs.length c5) 41 7 xs.length (xs.flatMap ndC), .blk b7 #[.int .i64 p0, .int .i64 p1, .int .i64 p2, .int .i64 p3, .int .i64 p4, .int .i64 0] 39] w71 from H9)
      have H := H9
      clear H9
      skip
      try clear C
      try simp only [World.size_alloc, List.nil_append, List.cons_append, List.append_assoc] at H
      have C := H.cells
      try simp only [cellsOf, cellsM, apartOf, apartM, and_true] at C
      go_wp2_with fail
      go_loopw [8, 23] (fun dd jj wr => ∃ (t : Bool) (i : Nat), dd = .bool t ∧ jj = .int .i64 i ∧ i ≤ xs.length ∧ Hid (t = (xs.take i).any fun y => decide (y.p = (⟨p0, p1, p2, p3, p4, 0⟩ : P6))) ∧ HS (OneD b) w [.dice B b, .blk bS #[.int .i64 a0, .int .i64 a1, .int .i64 a2, .int .i64 a3, .int .i64 a4, .int .i64 a5] 28, .row (.slice s5 xs.length c5) 41 7 xs.length (xs.flatMap ndC), .blk b7 #[.int .i64 p0, .int .i64 p1, .int .i64 p2, .int .i64 p3, .int .i64 p4, .int .i64 0] 39] wr) (fun _ jj _ => xs.length - (intOf jj).toNat)
      case atStart => exact ⟨false, 0, rfl, rfl, Nat.zero_le _, (show Hid _ from rfl), H⟩
      case round =>
        clear H C
        obtain ⟨t, i, rfl, rfl, hi, HT, H⟩ := hrel
        skip
        try clear C
        try simp only [World.size_alloc, List.nil_append, List.cons_append, List.append_assoc] at H
        have C := H.cells
        try simp only [cellsOf, cellsM, apartOf, apartM, and_true] at C
        by_cases hlt : i < xs.length
        · have hii : (i : Int) < xs.length := by omega
          obtain ⟨b, o, rfl, hb, hc⟩ := (H.rowLies 2 ndC_len rfl rfl).at hlt
          obtain ⟨q, hq⟩ : ∃ q, q = xs[i]! := ⟨_, rfl⟩
          rw [← hq] at hc
          have HQ := Lib.hid hq
          clear hq
          have HTK := Lib.hid (any_take (fun y => decide (y.p = (⟨p0, p1, p2, p3, p4, 0⟩ : P6))) hlt)
          rw [← HQ.out] at HTK
          obtain ⟨⟨q0, q1, q2, q3, q4, q5⟩, ql⟩ := q
          have e0 : wr.cell? ⟨b, o + i * 7, none⟩ = some (.int .i64 q0) := hc 0 _ rfl
          have e1 : wr.cell? ⟨b, o + i * 7 + 1, none⟩ = some (.int .i64 q1) := hc 1 _ rfl
          have e2 : wr.cell? ⟨b, o + i * 7 + 2, none⟩ = some (.int .i64 q2) := hc 2 _ rfl
          have e3 : wr.cell? ⟨b, o + i * 7 + 3, none⟩ = some (.int .i64 q3) := hc 3 _ rfl
          have e4 : wr.cell? ⟨b, o + i * 7 + 4, none⟩ = some (.int .i64 q4) := hc 4 _ rfl
          have e5 : wr.cell? ⟨b, o + i * 7 + 5, none⟩ = some (.int .i64 q5) := hc 5 _ rfl
          have e6 : wr.cell? ⟨b, o + i * 7 + 6, none⟩ = some (.int .i64 ql) := hc 6 _ rfl
          clear hc hb
          dsimp only at HTK
          have heq := eqlP6 q0 q1 q2 q3 q4 q5 p0 p1 p2 p3 p4 0
          rw [← show decide ((⟨q0, q1, q2, q3, q4, q5⟩ : P6) = (⟨p0, p1, p2, p3, p4, 0⟩ : P6)) = decide (q0 = p0 ∧ q1 = p1 ∧ q2 = p2 ∧ q3 = p3 ∧ q4 = p4 ∧ q5 = 0) by simp only [P6.mk.injEq]] at heq
          go_upto_region 11 with fail
          clear e0 e1 e2 e3 e4 e5 e6
          generalize hwb : wr.alloc _ = w5
          replace H := HS.eqW hwb H.alloc
          try simp only [World.size_alloc, List.nil_append, List.cons_append, List.append_assoc] at H
          clear hwb
          generalize wr.heap.size = bM at H ⊢
          try clear C
          try clear wr
          have C := H.cells
          try simp only [cellsOf, cellsM, apartOf, apartM, and_true] at C
          skip
          cases t with
          | true =>
            have HTR := Lib.hid HT.out
            clear HT
            go_wp2_with fail
            go_roundw
            case rel => exact ⟨true, i + 1, rfl, by go_num, by omega, (show Hid _ from by rw [HTK.out, ← HTR.out]; rfl), H.less (by repeat (first | exact .slnil | refine .cons_cons _ ?_ | refine .cons _ ?_))⟩
            case measure => simp [intOf]; omega
          | false =>
            have HTR := Lib.hid HT.out
            clear HT
            skip
            by_cases he : (⟨q0, q1, q2, q3, q4, q5⟩ : P6) = (⟨p0, p1, p2, p3, p4, 0⟩ : P6)
            · rw [decide_eq_true he] at heq HTK
              clear he
              go_wp2_with fail
              go_roundw
              case rel => exact ⟨true, i + 1, rfl, by go_num, by omega, (show Hid _ from by rw [HTK.out, Bool.or_true]; trivial), H.less (by repeat (first | exact .slnil | refine .cons_cons _ ?_ | refine .cons _ ?_))⟩
              case measure => simp [intOf]; omega
            · rw [decide_eq_false he] at heq HTK
              clear he
              skip
              go_wp2_with fail
              go_roundw
              case rel => exact ⟨false, i + 1, rfl, by go_num, by omega, (show Hid _ from by rw [HTK.out, Bool.or_false]; exact HTR.out), H.less (by repeat (first | exact .slnil | refine .cons_cons _ ?_ | refine .cons _ ?_))⟩
              case measure => simp [intOf]; omega
        · have hil : i = xs.length := by omega
          subst hil
          have ht := HT.out
          rw [List.take_length] at ht
          have HTT := Lib.hid ht
          clear ht HT
          skip
          skip
          cases t with
          | true =>
            go_wp2_with fail
            go_roundw
            case rel => exact ⟨n - 1, xs, by go_num, by omega, by omega, HA, H.less (by repeat (first | exact .slnil | refine .cons_cons _ ?_ | refine .cons _ ?_))⟩
            case measure => simp [intOf]; omega
          | false =>
            skip
            have hX : ¬ (Value.slice s5 xs.length c5).ownBlock = some b7 := fun e => H.apart (i := 2) (j := 3) rfl rfl (by decide) e rfl
            go_upto_region 14 with fail
            refine wp_region_h (by kernel_rfl) [0, 1, 2, 3, 5, 6, 4, 7, 8, 9, 10, 11, 12] (by kernel_rfl) (by kernel_rfl) (by kernel_rfl) (fun k => k = b ∨ (Value.slice s5 xs.length c5).ownBlock = some k) (H) ?_
            clear H; intro w6 H hz0
            try clear C
            try simp only [World.size_alloc, List.nil_append, List.cons_append, List.append_assoc] at H hz0 ⊢
            clear hz0
            try clear wr
            have C := H.cells
            try simp only [cellsOf, cellsM, apartOf, apartM, and_true] at C
            have Z := H.zs
            try simp only [ltsOf, ltsM, and_true] at Z
            simp only [List.filterMap_cons, List.filterMap_nil, List.getElem?_toArray, List.getElem?_cons_zero, List.getElem?_cons_succ]
            (refine wpH_free rfl rfl rfl (fun _ _ => ?_); go_step; go_step)
            (refine wpH_load rfl rfl rfl (by simp [Stay, OneD, NoD, *]) (by simp [*]) (fun _ _ => ?_); go_step; go_step)
            (refine wpH_free rfl rfl rfl (fun _ _ => ?_); go_step; go_step)
            (refine wpH_call rfl rfl (fun wc hc _ _ => ?_); go_step; refine (nextK_any 1000 (by omega) B b _ (hc.hs.at 0 rfl) (Nat.le_trans hB hc.hs.size)).mono ?_; rintro _ wd ⟨v8, rfl, hv8, K⟩; dsimp only; go_step; refine ⟨_, (hc.joinDiceH (fun _ h => h.1) 0 rfl (fun h => h.2 (by first | exact rfl | exact .inl rfl)) (K) (fun A hA => by cases hA)).1, (hc.joinDiceH (fun _ h => h.1) 0 rfl (fun h => h.2 (by first | exact rfl | exact .inl rfl)) (K) (fun A hA => by cases hA)).2, ?_⟩; clear hc; try clear wc wd)
            (refine wpH_free rfl rfl rfl (fun _ _ => ?_); go_step; go_step)
            (refine wpH_call rfl rfl (fun wc hc _ _ => ?_); go_step; refine (nextK_any 7 (by omega) B b _ (hc.hs.at 0 rfl) (Nat.le_trans hB hc.hs.size)).mono ?_; rintro _ wd ⟨v9, rfl, hv9, K⟩; dsimp only; go_step; refine ⟨_, (hc.joinDiceH (fun _ h => h.1) 0 rfl (fun h => h.2 (by first | exact rfl | exact .inl rfl)) (K) (fun A hA => by cases hA)).1, (hc.joinDiceH (fun _ h => h.1) 0 rfl (fun h => h.2 (by first | exact rfl | exact .inl rfl)) (K) (fun A hA => by cases hA)).2, ?_⟩; clear hc; try clear wc wd)
            (refine wpH_lit rfl rfl #[.int .i64 0, .int .i64 1, .int .i64 5, .int .i64 5, .int .i64 7, .int .i64 100, .int .i64 v8]   3 7 (fun w => by kernel_rfl) (fun bL hbL nbL _ _ => ?_); go_simp; go_step)
            obtain ⟨j, rfl⟩ : ∃ j : Nat, v9 = j := ⟨v9.toNat, by have := hv9.1; omega⟩
            have hj : j < 7 := by have := hv9.lt (by omega); omega
            obtain ⟨z, hz, hz0, hz9⟩ := loss_at v8 ⟨hv8.1, hv8.lt (by omega)⟩ j hj
            have hjl : ((j : Nat) : Int) < 7 := by omega
            (refine wpH_free rfl rfl rfl (fun _ _ => ?_); go_step; go_step)
            (refine wpH_look rfl rfl rfl (fun _ => by kernel_rfl) (Fl.at _ _ _) hz (fun _ _ => ?_); go_simp; go_step)
            (refine wpH_free rfl rfl rfl (fun _ _ => ?_); go_step; go_step)
            (refine wpH_lit rfl rfl #[.int .i64 p0, .int .i64 p1, .int .i64 p2, .int .i64 p3, .int .i64 p4, .int .i64 0, .int .i64 z]   41 1 (fun w => by kernel_rfl) (fun bN hbN nbN _ _ => ?_); go_simp; go_step)
            refine wpH_append rfl (.tmp 37) (.tmp 47) 30 rfl elemNd 2 rfl rfl (fun k h9 h => h.2 (.inr h9)) (fun _ h => h.1) rfl (news := [(⟨(⟨p0, p1, p2, p3, p4, 0⟩ : P6), z⟩ : Nd)].flatMap ndC) (fun w hc => src_lit (Fl.at _ _ _) hc) rfl (ndC_one _) (by unfold maxLen; omega) (by omega) (N := xs.length + 1) (by omega) (fun s6 c6 hs6 => ?_)
            clear hs6
            (refine wpH_free rfl rfl rfl (fun _ _ => ?_); go_step; go_step)
            refine wpH_nil ?_
            intro w7 hC
            replace H := hC.hs
            clear hC
            try clear C
            try clear Z
            try simp only [List.nil_append, List.cons_append, List.append_assoc, List.set_cons_succ, List.set_cons_zero] at H
            try clear w6
            have C := H.cells
            try simp only [cellsOf, cellsM, apartOf, apartM, and_true] at C
            go_wp2_with fail
            go_roundw
            case rel =>
              refine ⟨n - 1, xs ++ [(⟨(⟨p0, p1, p2, p3, p4, 0⟩ : P6), z⟩ : Nd)], by go_num, by omega, by simp; omega, (show Hid _ from HA.out.snoc (x := (⟨(⟨p0, p1, p2, p3, p4, 0⟩ : P6), z⟩ : Nd)) HP.out rfl hz0 hz9 HTT.out.symm), ?_⟩
              rw [List.length_append, List.flatMap_append]
              exact HS.less H (by repeat (first | exact .slnil | refine .cons_cons _ ?_ | refine .cons _ ?_))
            case measure => simp [intOf]; omega
    · skip
      go_wp2_with fail
      go_ret
      exact ⟨xs, s5, c5, rfl, HA.out, by omega, H.less (by repeat (first | exact .slnil | refine .cons_cons _ ?_ | refine .cons _ ?_))⟩
end Go.Proofs.Ytdhnpjgnnfgklaa
