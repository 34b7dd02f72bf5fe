/- Package spare: right and its closures, Valid. -/
import Derived.Test.YtcacgmfihhpliaaSpare1
namespace Go.Proofs.Ytcacgmfihhpliaa
set_option linter.unusedSimpArgs false
set_option linter.unusedVariables false
open Go.RowKit
set_option maxRecDepth 100000
attribute [local go_sem] lt_more ne_more ne_more'
attribute [local irreducible] wpX wpF Calls

/-- What a search over a slice by a test hands back. -/
def FindPostS (p : S8 → Bool) (xs : List S8) (w : World) (e : Ending) (w' : World) : Prop :=
  ∃ r : Int, e = .returned (.int .i64 r) ∧ ((r = -1 ∧ ∀ i, i < xs.length → p xs[i]! = false) ∨ ∃ i : Nat, i < xs.length ∧ r = i ∧ p xs[i]! = true ∧ ∀ j, j < i → p xs[j]! = false) ∧ Below w.heap.size w w'
/-- The closure g with the captured addresses lb answers by p. -/
def AsksS (g : Nat) (lb : Array Value) (p : S8 → Bool) (w : World) : Prop := ∀ W x, Below w.heap.size w W → Calls Try.prog g (#[.agg (sC x).toArray] ++ lb) W (Gives (.bool (p x)) W)
set_option maxHeartbeats 2000000 in
theorem findS (g : Nat) (eg : ∀ args w, (callFunc g args).run Try.prog w = .ok (.enter g args) w) (lb : Array Value) (p : S8 → Bool) {sa : Option Addr} (c : Nat) {xs : List S8} (hx : xs.length ≤ 100000) (w : World) (hl : Lies w w.heap.size sa 8 xs.length (fun j => sC xs[j]!)) (hp : AsksS g lb p w) :
    Calls Try.prog 83 #[.slice sa xs.length c, .func (.func g) #[] lb] w (FindPostS p xs w) := by
  have HL := Lib.hid hl
  have HP := Lib.hid hp
  clear hl hp
  go_enter Try.func83, Try.ntmps83
  have H := HS.start NoD w
  go_wp2_with fail
  go_loopw [5, 8] (fun _ i wr => ∃ (j : Nat), i = .int .i64 j ∧ j ≤ xs.length ∧ Hid (∀ i, i < j → p xs[i]! = false) ∧ HS NoD w [] wr) (fun _ i _ => xs.length - (intOf i).toNat)
  case atStart => exact ⟨0, rfl, Nat.zero_le _, fun i hi => absurd hi (Nat.not_lt_zero _), H⟩
  case round =>
    clear H
    obtain ⟨j, rfl, hj, HF, H⟩ := hrel
    skip
    by_cases hlt : j < xs.length
    · obtain ⟨b, o, rfl, hb, hc⟩ := (H.lies HL.out).at hlt
      have hcall := Lib.hid (fun (b : Bool) (e : p xs[j]! = b) => by have := HP.out wr xs[j]! H.done; rw [e] at this; exact this)
      obtain ⟨x, hxj⟩ : ∃ x, x = xs[j]! := ⟨_, rfl⟩
      rw [← hxj] at hc hcall
      have c0 : wr.cell? ⟨b, o + j * 8, none⟩ = _ := hc 0 _ rfl
      have c1 : wr.cell? ⟨b, o + j * 8 + 1, none⟩ = _ := hc 1 _ rfl
      have c2 : wr.cell? ⟨b, o + j * 8 + 2, none⟩ = _ := hc 2 _ rfl
      have c3 : wr.cell? ⟨b, o + j * 8 + 3, none⟩ = _ := hc 3 _ rfl
      have c4 : wr.cell? ⟨b, o + j * 8 + 4, none⟩ = _ := hc 4 _ rfl
      have c5 : wr.cell? ⟨b, o + j * 8 + 5, none⟩ = _ := hc 5 _ rfl
      have c6 : wr.cell? ⟨b, o + j * 8 + 6, none⟩ = _ := hc 6 _ rfl
      have c7 : wr.cell? ⟨b, o + j * 8 + 7, none⟩ = _ := hc 7 _ rfl
      have HX := Lib.hid hxj
      clear hc hxj
      cases hq : p x with
      | true =>
        have HQ := Lib.hid hq
        have hca := hcall.out _ hq
        clear hq hcall
        go_wp2_with fail
        refine hca.mono ?_
        rintro _ w1 ⟨rfl, hb1⟩
        clear hca
        go_wp2_with fail
        go_ret
        exact ⟨_, rfl, .inr ⟨j, hlt, rfl, by rw [← HX.out]; exact HQ.out, HF.out⟩, (H.below hb1).done⟩
      | false =>
        have HQ := Lib.hid hq
        have hca := hcall.out _ hq
        clear hq hcall
        go_wp2_with fail
        refine hca.mono ?_
        rintro _ w1 ⟨rfl, hb1⟩
        clear hca
        go_wp2_with fail
        go_roundw
        case rel =>
          refine ⟨j + 1, by go_num, by omega, (show Hid _ from fun i hi => ?_), H.below hb1⟩
          by_cases e : i = j
          · subst e; rw [← HX.out]; exact HQ.out
          · exact HF.out i (by omega)
        case measure => simp [intOf]; omega
    · go_wp2_with fail
      go_ret
      exact ⟨-1, rfl, .inl ⟨rfl, fun i hi => HF.out i (by omega)⟩, H.done⟩
theorem any_ofS {p : S8 → Bool} {xs : List S8} {r : Int} (h : (r = -1 ∧ ∀ i, i < xs.length → p xs[i]! = false) ∨ ∃ i : Nat, i < xs.length ∧ r = i ∧ p xs[i]! = true ∧ ∀ j, j < i → p xs[j]! = false) : decide (0 ≤ r) = xs.any p := by
  rcases h with ⟨rfl, h⟩ | ⟨i, hi, rfl, h, -⟩
  · symm
    rw [show decide ((0 : Int) ≤ -1) = false from rfl, List.any_eq_false]
    intro x hx
    obtain ⟨i, hi, rfl⟩ := List.getElem_of_mem hx
    have := h i hi
    rw [getElem!_pos xs i hi] at this
    simp [this]
  · symm
    rw [show decide ((0 : Int) ≤ (i : Int)) = true by simp, List.any_eq_true]
    exact ⟨xs[i]!, by rw [getElem!_pos xs i hi]; exact List.getElem_mem _, h⟩
theorem containsS (g : Nat) (eg : ∀ args w, (callFunc g args).run Try.prog w = .ok (.enter g args) w) (lb : Array Value) (p : S8 → Bool) {sa : Option Addr} (c : Nat) {xs : List S8} (hx : xs.length ≤ 100000) (w : World) (hl : Lies w w.heap.size sa 8 xs.length (fun j => sC xs[j]!)) (hp : AsksS g lb p w) :
    Calls Try.prog 60 #[.slice sa xs.length c, .func (.func g) #[] lb] w (Gives (.bool (xs.any p)) w) := by
  have hf := Lib.hid (findS g eg lb p c hx w hl hp)
  clear hl hp
  go_enter Try.func60, Try.ntmps60
  have H := HS.start NoD w
  go_wp2_with fail
  refine (hf.out).mono ?_
  rintro _ w1 ⟨r, rfl, hr, hb⟩
  replace H := H.below hb
  clear hb
  try clear C
  try simp only [World.size_alloc, List.nil_append, List.cons_append, List.append_assoc] at H
  have C := H.cells
  try simp only [cellsOf, apartOf, and_true] at C
  dsimp only
  go_wp2_with fail
  go_ret
  exact ⟨by rw [← any_ofS hr]; rfl, H.done⟩

/-- Two swaps of one bank that share a row or a spare row. -/
def clash (s t : S8) : Bool := decide (t.p0 = s.p0 ∧ t.p1 = s.p1 ∧ t.p2 = s.p2 ∧ t.p3 = s.p3 ∧ t.p4 = s.p4 ∧ t.p5 = s.p5) && (decide (t.r = s.r) || decide (t.s = s.s))
theorem right1_of (x : S8) (row : Int) (b : Nat) (w : World) (hb : Blk w b (sC x).toArray 38) : Calls Try.prog 80 #[.int .i64 row, .pointer (some ⟨b, 0, none⟩)] w (Gives (v6 x.p0 x.p1 x.p2 x.p3 row x.p5) w) := by
  obtain ⟨p0, p1, p2, p3, p4, p5, r, s⟩ := x
  have hlt := hb.lt
  have hne : (w.heap.size = b) = False := eq_false (by omega)
  have hne' : (b = w.heap.size) = False := eq_false (by omega)
  have hc : ∀ o, w.cell? ⟨b, o, none⟩ = (#[.int .i64 p0, .int .i64 p1, .int .i64 p2, .int .i64 p3, .int .i64 p4, .int .i64 p5, .int .i64 r, .int .i64 s] : Array Value)[o]? := hb.cell
  clear hb
  go_enter Try.func80, Try.ntmps80
  have H := HS.start NoD w
  go_wp2_with fail
  go_returns
  refine ⟨rfl, ?_⟩
  go_grown
theorem right2_of (x t : S8) (b : Nat) (w : World) (hb : Blk w b (sC x).toArray 38) : Calls Try.prog 81 #[.agg (sC t).toArray, .pointer (some ⟨b, 0, none⟩)] w (Gives (.bool (clash x t)) w) := by
  obtain ⟨p0, p1, p2, p3, p4, p5, r, s⟩ := x
  obtain ⟨q0, q1, q2, q3, q4, q5, u, v⟩ := t
  have hlt := hb.lt
  have hne : (w.heap.size = b) = False := eq_false (by omega)
  have hne' : (b = w.heap.size) = False := eq_false (by omega)
  have hc : ∀ o, w.cell? ⟨b, o, none⟩ = (#[.int .i64 p0, .int .i64 p1, .int .i64 p2, .int .i64 p3, .int .i64 p4, .int .i64 p5, .int .i64 r, .int .i64 s] : Array Value)[o]? := hb.cell
  clear hb
  show Calls Try.prog 81 #[.agg #[.int .i64 q0, .int .i64 q1, .int .i64 q2, .int .i64 q3, .int .i64 q4, .int .i64 q5, .int .i64 u, .int .i64 v], .pointer (some ⟨b, 0, none⟩)] w _
  go_enter Try.func81, Try.ntmps81
  have H := HS.start NoD w
  go_wp2_with fail
  all_goals go_ret
  all_goals refine ⟨?_, H.alloc.done⟩
  all_goals simp_all [clash]
  all_goals (rw [show (u == r) = false from beq_eq_false_iff_ne.2 (by omega)]; rfl)
/-- What makes the swap x right, but for those before it. -/
def okS (a0 a1 a2 a3 a4 a5 n : Int) (x : S8) : Bool :=
  decide (x.p4 = 0 ∧ x.p5 = 0) && (decide (PV a0 a1 a2 a3 a4 a5 x.p0 x.p1 x.p2 x.p3 x.r x.p5) && (decide (PV a0 a1 a2 a3 a4 a5 x.p0 x.p1 x.p2 x.p3 x.s x.p5) && (decide (¬ rwz a4 - n ≤ x.r) && decide (rwz a4 - n ≤ x.s))))
def rightB (a0 a1 a2 a3 a4 a5 n : Int) (xs : List S8) (i : Nat) : Bool := okS a0 a1 a2 a3 a4 a5 n xs[i]! && !((xs.take i).any (clash xs[i]!))
set_option maxHeartbeats 8000000 in
theorem right_of {a0 a1 a2 a3 a4 a5 n : Int} (h : SV a0 a1 a2 a3 a4 a5) (hn : 0 ≤ n ∧ n < rwz a4) {sa : Option Addr} (c : Nat) {xs : List S8} (hx : xs.length ≤ 1000) (hcap : xs.length ≤ c) (i : Nat) (hi : i < xs.length) (w : World) (hl : Lies w w.heap.size sa 8 xs.length (fun j => sC xs[j]!)) :
    Calls Try.prog 55 #[vSp a0 a1 a2 a3 a4 a5 n (.slice sa xs.length c), .int .i64 i] w (Gives (.bool (rightB a0 a1 a2 a3 a4 a5 n xs i)) w) := by
  have HL := Lib.hid hl
  obtain ⟨b, o, rfl, hb, hc⟩ := hl.at hi
  obtain ⟨x, hxi⟩ : ∃ x, x = xs[i]! := ⟨_, rfl⟩
  rw [← hxi] at hc
  have HXI := Lib.hid hxi
  obtain ⟨p0, p1, p2, p3, p4, p5, r, s⟩ := x
  have c0 : w.cell? ⟨b, o + i * 8, none⟩ = some (.int .i64 p0) := hc 0 _ rfl
  have c1 : w.cell? ⟨b, o + i * 8 + 1, none⟩ = some (.int .i64 p1) := hc 1 _ rfl
  have c2 : w.cell? ⟨b, o + i * 8 + 2, none⟩ = some (.int .i64 p2) := hc 2 _ rfl
  have c3 : w.cell? ⟨b, o + i * 8 + 3, none⟩ = some (.int .i64 p3) := hc 3 _ rfl
  have c4 : w.cell? ⟨b, o + i * 8 + 4, none⟩ = some (.int .i64 p4) := hc 4 _ rfl
  have c5 : w.cell? ⟨b, o + i * 8 + 5, none⟩ = some (.int .i64 p5) := hc 5 _ rfl
  have c6 : w.cell? ⟨b, o + i * 8 + 6, none⟩ = some (.int .i64 r) := hc 6 _ rfl
  have c7 : w.cell? ⟨b, o + i * 8 + 7, none⟩ = some (.int .i64 s) := hc 7 _ rfl
  have hne : (w.heap.size = b) = False := eq_false (by omega)
  have hne' : (b = w.heap.size) = False := eq_false (by omega)
  clear hl hc hxi
  have HBK := Lib.hid (fun w => sbank_of p0 p1 p2 p3 p4 p5 w)
  have HVP := Lib.hid (fun (row : Int) w => validPlace_any h (p0 := p0) (p1 := p1) (p2 := p2) (p3 := p3) (p4 := row) (p5 := p5) w)
  have HRS := Lib.hid (fun (row : Int) w => reserved_of h hn (some ⟨b, o, none⟩) xs.length c row w)
  go_enter Try.func55, Try.ntmps55
  have H := HS.start NoD w
  go_upto_region 3 with fail
  generalize hwb : (w.alloc _).alloc _ = w1
  replace H := HS.eqW hwb H.alloc.alloc
  try simp only [World.size_alloc, List.nil_append, List.cons_append, List.append_assoc] at H
  clear hwb
  generalize w.heap.size + 1 = bS at H ⊢
  generalize w.heap.size = bX at H ⊢
  try clear C
  have C := H.cells
  try simp only [cellsOf, apartOf, and_true] at C
  have hrb : rightB a0 a1 a2 a3 a4 a5 n xs i = (okS a0 a1 a2 a3 a4 a5 n ⟨p0, p1, p2, p3, p4, p5, r, s⟩ && !((xs.take i).any (clash ⟨p0, p1, p2, p3, p4, p5, r, s⟩))) := by unfold rightB; rw [← HXI.out]
  have HRB := Lib.hid hrb
  clear hrb c0 c1 c2 c3 c4 c5 c6 c7
  skip
  by_cases hB : p4 = 0 ∧ p5 = 0
  · obtain ⟨rfl, rfl⟩ := hB
    by_cases hP1 : PV a0 a1 a2 a3 a4 a5 p0 p1 p2 p3 r 0
    · have HV1 := Lib.hid (fun w => by have := HVP.out r w; rw [decide_eq_true hP1] at this; exact this : ∀ w, Calls Try.prog 58 #[v6 a0 a1 a2 a3 a4 a5, v6 p0 p1 p2 p3 r 0] w (Gives (.bool true) w))
      by_cases hP2 : PV a0 a1 a2 a3 a4 a5 p0 p1 p2 p3 s 0
      · have HV2 := Lib.hid (fun w => by have := HVP.out s w; rw [decide_eq_true hP2] at this; exact this : ∀ w, Calls Try.prog 58 #[v6 a0 a1 a2 a3 a4 a5, v6 p0 p1 p2 p3 s 0] w (Gives (.bool true) w))
        by_cases hr1 : rwz a4 - n ≤ r
        · have HR1 := Lib.hid (fun w => by have := HRS.out r w; rw [decide_eq_true hr1] at this; exact this : ∀ w, Calls Try.prog 59 #[vSp a0 a1 a2 a3 a4 a5 n (.slice (some ⟨b, o, none⟩) xs.length c), .int .i64 r] w (Gives (.bool true) w))
          have HOK := Lib.hid (show okS a0 a1 a2 a3 a4 a5 n ⟨p0, p1, p2, p3, 0, 0, r, s⟩ = false by simp [okS, hr1])
          clear hP1 hP2 hr1
          skip
          refine wp_region_xH (by kernel_rfl) (by kernel_rfl) (by kernel_rfl) (by kernel_rfl) (fun _ => False) (H) ?_
          clear H; intro w2 H hz0 hs0
          try clear C
          try simp only [World.size_alloc, List.nil_append, List.cons_append, List.append_assoc] at H hz0
          clear hz0
          try clear w1
          have C := H.cells
          try simp only [cellsOf, apartOf, and_true] at C
          have Z := H.zs
          try simp only [ltsOf, and_true] at Z
          have hz0 := Nat.le_refl w2.heap.size
          repeat (first | (refine wpX_skip rfl ?_; go_simp) | (refine wpX_free rfl rfl rfl (fun K hK => ?_); go_step; refine hK _ _ ?_; clear hK K) | (refine wpX_load rfl rfl rfl (by simp [Stay, OneD, NoD, *]) hs0 (by simp [*]) (fun K hK => ?_); go_step; refine hK _ _ ?_; clear hK K))
          refine wpX_eff rfl rfl (fun _ _ => ?_)
          go_step
          refine (HBK.out _).mono ?_
          rintro _ w3 ⟨rfl, hb⟩
          replace hs0 := hs0.belowS hz0 hb
          replace hz0 := Nat.le_trans hz0 hb.size
          replace H := H.below hb
          clear hb
          try clear C
          have C := H.cells
          try simp only [cellsOf, apartOf, and_true] at C
          try clear w2
          dsimp only
          go_step
          refine ⟨hs0, ?_⟩
          repeat (first | (refine wpX_skip rfl ?_; go_simp) | (refine wpX_free rfl rfl rfl (fun K hK => ?_); go_step; refine hK _ _ ?_; clear hK K) | (refine wpX_load rfl rfl rfl (by simp [Stay, OneD, NoD, *]) hs0 (by simp [*]) (fun K hK => ?_); go_step; refine hK _ _ ?_; clear hK K))
          (refine wpX_yield rfl rfl ((.bool false)) (fun w hw => by go_simp) ?_; go_simp)
          repeat (first | (refine wpX_skip rfl ?_; go_simp) | (refine wpX_free rfl rfl rfl (fun K hK => ?_); go_step; refine hK _ _ ?_; clear hK K) | (refine wpX_load rfl rfl rfl (by simp [Stay, OneD, NoD, *]) hs0 (by simp [*]) (fun K hK => ?_); go_step; refine hK _ _ ?_; clear hK K))
          refine wpX_eff rfl rfl (fun _ _ => ?_)
          go_step
          refine (right1_of ⟨p0, p1, p2, p3, 0, 0, r, s⟩ r bS _ (H.at 1 rfl)).mono ?_
          rintro _ w4 ⟨rfl, hb⟩
          replace hs0 := hs0.belowS hz0 hb
          replace hz0 := Nat.le_trans hz0 hb.size
          replace H := H.below hb
          clear hb
          try clear C
          have C := H.cells
          try simp only [cellsOf, apartOf, and_true] at C
          try clear w3
          dsimp only
          go_step
          refine ⟨hs0, ?_⟩
          repeat (first | (refine wpX_skip rfl ?_; go_simp) | (refine wpX_free rfl rfl rfl (fun K hK => ?_); go_step; refine hK _ _ ?_; clear hK K) | (refine wpX_load rfl rfl rfl (by simp [Stay, OneD, NoD, *]) hs0 (by simp [*]) (fun K hK => ?_); go_step; refine hK _ _ ?_; clear hK K))
          refine wpX_eff rfl rfl (fun _ _ => ?_)
          go_step
          refine (HV1.out _).mono ?_
          rintro _ w5 ⟨rfl, hb⟩
          replace hs0 := hs0.belowS hz0 hb
          replace hz0 := Nat.le_trans hz0 hb.size
          replace H := H.below hb
          clear hb
          try clear C
          have C := H.cells
          try simp only [cellsOf, apartOf, and_true] at C
          try clear w4
          dsimp only
          go_step
          refine ⟨hs0, ?_⟩
          repeat (first | (refine wpX_skip rfl ?_; go_simp) | (refine wpX_free rfl rfl rfl (fun K hK => ?_); go_step; refine hK _ _ ?_; clear hK K) | (refine wpX_load rfl rfl rfl (by simp [Stay, OneD, NoD, *]) hs0 (by simp [*]) (fun K hK => ?_); go_step; refine hK _ _ ?_; clear hK K))
          refine wpX_eff rfl rfl (fun _ _ => ?_)
          go_step
          refine (right1_of ⟨p0, p1, p2, p3, 0, 0, r, s⟩ s bS _ (H.at 1 rfl)).mono ?_
          rintro _ w6 ⟨rfl, hb⟩
          replace hs0 := hs0.belowS hz0 hb
          replace hz0 := Nat.le_trans hz0 hb.size
          replace H := H.below hb
          clear hb
          try clear C
          have C := H.cells
          try simp only [cellsOf, apartOf, and_true] at C
          try clear w5
          dsimp only
          go_step
          refine ⟨hs0, ?_⟩
          repeat (first | (refine wpX_skip rfl ?_; go_simp) | (refine wpX_free rfl rfl rfl (fun K hK => ?_); go_step; refine hK _ _ ?_; clear hK K) | (refine wpX_load rfl rfl rfl (by simp [Stay, OneD, NoD, *]) hs0 (by simp [*]) (fun K hK => ?_); go_step; refine hK _ _ ?_; clear hK K))
          refine wpX_eff rfl rfl (fun _ _ => ?_)
          go_step
          refine (HV2.out _).mono ?_
          rintro _ w7 ⟨rfl, hb⟩
          replace hs0 := hs0.belowS hz0 hb
          replace hz0 := Nat.le_trans hz0 hb.size
          replace H := H.below hb
          clear hb
          try clear C
          have C := H.cells
          try simp only [cellsOf, apartOf, and_true] at C
          try clear w6
          dsimp only
          go_step
          refine ⟨hs0, ?_⟩
          repeat (first | (refine wpX_skip rfl ?_; go_simp) | (refine wpX_free rfl rfl rfl (fun K hK => ?_); go_step; refine hK _ _ ?_; clear hK K) | (refine wpX_load rfl rfl rfl (by simp [Stay, OneD, NoD, *]) hs0 (by simp [*]) (fun K hK => ?_); go_step; refine hK _ _ ?_; clear hK K))
          refine wpX_eff rfl rfl (fun _ _ => ?_)
          go_step
          refine (HR1.out _).mono ?_
          rintro _ w8 ⟨rfl, hb⟩
          replace hs0 := hs0.belowS hz0 hb
          replace hz0 := Nat.le_trans hz0 hb.size
          replace H := H.below hb
          clear hb
          try clear C
          have C := H.cells
          try simp only [cellsOf, apartOf, and_true] at C
          try clear w7
          dsimp only
          go_step
          refine ⟨hs0, ?_⟩
          repeat (first | (refine wpX_skip rfl ?_; go_simp) | (refine wpX_free rfl rfl rfl (fun K hK => ?_); go_step; refine hK _ _ ?_; clear hK K) | (refine wpX_load rfl rfl rfl (by simp [Stay, OneD, NoD, *]) hs0 (by simp [*]) (fun K hK => ?_); go_step; refine hK _ _ ?_; clear hK K))
          (refine wpX_nil ?_; go_step)
          go_wp2_with fail
          go_ret
          refine ⟨?_, H.done⟩
          rw [HRB.out, HOK.out]
          rfl
        · have HR1 := Lib.hid (fun w => by have := HRS.out r w; rw [decide_eq_false hr1] at this; exact this : ∀ w, Calls Try.prog 59 #[vSp a0 a1 a2 a3 a4 a5 n (.slice (some ⟨b, o, none⟩) xs.length c), .int .i64 r] w (Gives (.bool false) w))
          by_cases hr2 : rwz a4 - n ≤ s
          · have HR2 := Lib.hid (fun w => by have := HRS.out s w; rw [decide_eq_true hr2] at this; exact this : ∀ w, Calls Try.prog 59 #[vSp a0 a1 a2 a3 a4 a5 n (.slice (some ⟨b, o, none⟩) xs.length c), .int .i64 s] w (Gives (.bool true) w))
            have HOK := Lib.hid (show okS a0 a1 a2 a3 a4 a5 n ⟨p0, p1, p2, p3, 0, 0, r, s⟩ = true by simp [okS, hP1, hP2, hr2]; omega)
            clear hP1 hP2 hr1 hr2
            skip
            refine wp_region_xH (by kernel_rfl) (by kernel_rfl) (by kernel_rfl) (by kernel_rfl) (fun _ => False) (H) ?_
            clear H; intro w9 H hz0 hs0
            try clear C
            try simp only [World.size_alloc, List.nil_append, List.cons_append, List.append_assoc] at H hz0
            clear hz0
            try clear w1
            have C := H.cells
            try simp only [cellsOf, apartOf, and_true] at C
            have Z := H.zs
            try simp only [ltsOf, and_true] at Z
            have hz0 := Nat.le_refl w9.heap.size
            repeat (first | (refine wpX_skip rfl ?_; go_simp) | (refine wpX_free rfl rfl rfl (fun K hK => ?_); go_step; refine hK _ _ ?_; clear hK K) | (refine wpX_load rfl rfl rfl (by simp [Stay, OneD, NoD, *]) hs0 (by simp [*]) (fun K hK => ?_); go_step; refine hK _ _ ?_; clear hK K))
            refine wpX_eff rfl rfl (fun _ _ => ?_)
            go_step
            refine (HBK.out _).mono ?_
            rintro _ w10 ⟨rfl, hb⟩
            replace hs0 := hs0.belowS hz0 hb
            replace hz0 := Nat.le_trans hz0 hb.size
            replace H := H.below hb
            clear hb
            try clear C
            have C := H.cells
            try simp only [cellsOf, apartOf, and_true] at C
            try clear w9
            dsimp only
            go_step
            refine ⟨hs0, ?_⟩
            repeat (first | (refine wpX_skip rfl ?_; go_simp) | (refine wpX_free rfl rfl rfl (fun K hK => ?_); go_step; refine hK _ _ ?_; clear hK K) | (refine wpX_load rfl rfl rfl (by simp [Stay, OneD, NoD, *]) hs0 (by simp [*]) (fun K hK => ?_); go_step; refine hK _ _ ?_; clear hK K))
            (refine wpX_yield rfl rfl ((.bool false)) (fun w hw => by go_simp) ?_; go_simp)
            repeat (first | (refine wpX_skip rfl ?_; go_simp) | (refine wpX_free rfl rfl rfl (fun K hK => ?_); go_step; refine hK _ _ ?_; clear hK K) | (refine wpX_load rfl rfl rfl (by simp [Stay, OneD, NoD, *]) hs0 (by simp [*]) (fun K hK => ?_); go_step; refine hK _ _ ?_; clear hK K))
            refine wpX_eff rfl rfl (fun _ _ => ?_)
            go_step
            refine (right1_of ⟨p0, p1, p2, p3, 0, 0, r, s⟩ r bS _ (H.at 1 rfl)).mono ?_
            rintro _ w11 ⟨rfl, hb⟩
            replace hs0 := hs0.belowS hz0 hb
            replace hz0 := Nat.le_trans hz0 hb.size
            replace H := H.below hb
            clear hb
            try clear C
            have C := H.cells
            try simp only [cellsOf, apartOf, and_true] at C
            try clear w10
            dsimp only
            go_step
            refine ⟨hs0, ?_⟩
            repeat (first | (refine wpX_skip rfl ?_; go_simp) | (refine wpX_free rfl rfl rfl (fun K hK => ?_); go_step; refine hK _ _ ?_; clear hK K) | (refine wpX_load rfl rfl rfl (by simp [Stay, OneD, NoD, *]) hs0 (by simp [*]) (fun K hK => ?_); go_step; refine hK _ _ ?_; clear hK K))
            refine wpX_eff rfl rfl (fun _ _ => ?_)
            go_step
            refine (HV1.out _).mono ?_
            rintro _ w12 ⟨rfl, hb⟩
            replace hs0 := hs0.belowS hz0 hb
            replace hz0 := Nat.le_trans hz0 hb.size
            replace H := H.below hb
            clear hb
            try clear C
            have C := H.cells
            try simp only [cellsOf, apartOf, and_true] at C
            try clear w11
            dsimp only
            go_step
            refine ⟨hs0, ?_⟩
            repeat (first | (refine wpX_skip rfl ?_; go_simp) | (refine wpX_free rfl rfl rfl (fun K hK => ?_); go_step; refine hK _ _ ?_; clear hK K) | (refine wpX_load rfl rfl rfl (by simp [Stay, OneD, NoD, *]) hs0 (by simp [*]) (fun K hK => ?_); go_step; refine hK _ _ ?_; clear hK K))
            refine wpX_eff rfl rfl (fun _ _ => ?_)
            go_step
            refine (right1_of ⟨p0, p1, p2, p3, 0, 0, r, s⟩ s bS _ (H.at 1 rfl)).mono ?_
            rintro _ w13 ⟨rfl, hb⟩
            replace hs0 := hs0.belowS hz0 hb
            replace hz0 := Nat.le_trans hz0 hb.size
            replace H := H.below hb
            clear hb
            try clear C
            have C := H.cells
            try simp only [cellsOf, apartOf, and_true] at C
            try clear w12
            dsimp only
            go_step
            refine ⟨hs0, ?_⟩
            repeat (first | (refine wpX_skip rfl ?_; go_simp) | (refine wpX_free rfl rfl rfl (fun K hK => ?_); go_step; refine hK _ _ ?_; clear hK K) | (refine wpX_load rfl rfl rfl (by simp [Stay, OneD, NoD, *]) hs0 (by simp [*]) (fun K hK => ?_); go_step; refine hK _ _ ?_; clear hK K))
            refine wpX_eff rfl rfl (fun _ _ => ?_)
            go_step
            refine (HV2.out _).mono ?_
            rintro _ w14 ⟨rfl, hb⟩
            replace hs0 := hs0.belowS hz0 hb
            replace hz0 := Nat.le_trans hz0 hb.size
            replace H := H.below hb
            clear hb
            try clear C
            have C := H.cells
            try simp only [cellsOf, apartOf, and_true] at C
            try clear w13
            dsimp only
            go_step
            refine ⟨hs0, ?_⟩
            repeat (first | (refine wpX_skip rfl ?_; go_simp) | (refine wpX_free rfl rfl rfl (fun K hK => ?_); go_step; refine hK _ _ ?_; clear hK K) | (refine wpX_load rfl rfl rfl (by simp [Stay, OneD, NoD, *]) hs0 (by simp [*]) (fun K hK => ?_); go_step; refine hK _ _ ?_; clear hK K))
            refine wpX_eff rfl rfl (fun _ _ => ?_)
            go_step
            refine (HR1.out _).mono ?_
            rintro _ w15 ⟨rfl, hb⟩
            replace hs0 := hs0.belowS hz0 hb
            replace hz0 := Nat.le_trans hz0 hb.size
            replace H := H.below hb
            clear hb
            try clear C
            have C := H.cells
            try simp only [cellsOf, apartOf, and_true] at C
            try clear w14
            dsimp only
            go_step
            refine ⟨hs0, ?_⟩
            repeat (first | (refine wpX_skip rfl ?_; go_simp) | (refine wpX_free rfl rfl rfl (fun K hK => ?_); go_step; refine hK _ _ ?_; clear hK K) | (refine wpX_load rfl rfl rfl (by simp [Stay, OneD, NoD, *]) hs0 (by simp [*]) (fun K hK => ?_); go_step; refine hK _ _ ?_; clear hK K))
            refine wpX_eff rfl rfl (fun _ _ => ?_)
            go_step
            refine (HR2.out _).mono ?_
            rintro _ w16 ⟨rfl, hb⟩
            replace hs0 := hs0.belowS hz0 hb
            replace hz0 := Nat.le_trans hz0 hb.size
            replace H := H.below hb
            clear hb
            try clear C
            have C := H.cells
            try simp only [cellsOf, apartOf, and_true] at C
            try clear w15
            dsimp only
            go_step
            refine ⟨hs0, ?_⟩
            repeat (first | (refine wpX_skip rfl ?_; go_simp) | (refine wpX_free rfl rfl rfl (fun K hK => ?_); go_step; refine hK _ _ ?_; clear hK K) | (refine wpX_load rfl rfl rfl (by simp [Stay, OneD, NoD, *]) hs0 (by simp [*]) (fun K hK => ?_); go_step; refine hK _ _ ?_; clear hK K))
            (refine wpX_nil ?_; go_step)
            go_wp2_with fail
            have hlen : (xs.take i).length = i := by rw [List.length_take]; omega
            have hcon := containsS 81 (fun _ _ => rfl) #[.pointer (some ⟨bS, 0, none⟩)] (clash ⟨p0, p1, p2, p3, 0, 0, r, s⟩) c (by rw [hlen]; omega) w16 (Lies.take (H.liesUp HL.out) (Nat.le_of_lt hi)) (fun W x hb => right2_of _ x bS W (Blk.below (H.at 1 rfl) hb))
            rw [hlen] at hcon
            clear hlen
            refine (hcon).mono ?_
            rintro _ w17 ⟨rfl, hb⟩
            replace H := H.below hb
            clear hb
            try clear C
            try simp only [World.size_alloc, List.nil_append, List.cons_append, List.append_assoc] at H
            try clear w16
            have C := H.cells
            try simp only [cellsOf, apartOf, and_true] at C
            dsimp only
            go_wp2_with fail
            go_ret
            refine ⟨?_, H.done⟩
            rw [HRB.out, HOK.out]
            rfl
          · have HR2 := Lib.hid (fun w => by have := HRS.out s w; rw [decide_eq_false hr2] at this; exact this : ∀ w, Calls Try.prog 59 #[vSp a0 a1 a2 a3 a4 a5 n (.slice (some ⟨b, o, none⟩) xs.length c), .int .i64 s] w (Gives (.bool false) w))
            have HOK := Lib.hid (show okS a0 a1 a2 a3 a4 a5 n ⟨p0, p1, p2, p3, 0, 0, r, s⟩ = false by simp [okS, hr2])
            clear hP1 hP2 hr1 hr2
            skip
            refine wp_region_xH (by kernel_rfl) (by kernel_rfl) (by kernel_rfl) (by kernel_rfl) (fun _ => False) (H) ?_
            clear H; intro w18 H hz0 hs0
            try clear C
            try simp only [World.size_alloc, List.nil_append, List.cons_append, List.append_assoc] at H hz0
            clear hz0
            try clear w1
            have C := H.cells
            try simp only [cellsOf, apartOf, and_true] at C
            have Z := H.zs
            try simp only [ltsOf, and_true] at Z
            have hz0 := Nat.le_refl w18.heap.size
            repeat (first | (refine wpX_skip rfl ?_; go_simp) | (refine wpX_free rfl rfl rfl (fun K hK => ?_); go_step; refine hK _ _ ?_; clear hK K) | (refine wpX_load rfl rfl rfl (by simp [Stay, OneD, NoD, *]) hs0 (by simp [*]) (fun K hK => ?_); go_step; refine hK _ _ ?_; clear hK K))
            refine wpX_eff rfl rfl (fun _ _ => ?_)
            go_step
            refine (HBK.out _).mono ?_
            rintro _ w19 ⟨rfl, hb⟩
            replace hs0 := hs0.belowS hz0 hb
            replace hz0 := Nat.le_trans hz0 hb.size
            replace H := H.below hb
            clear hb
            try clear C
            have C := H.cells
            try simp only [cellsOf, apartOf, and_true] at C
            try clear w18
            dsimp only
            go_step
            refine ⟨hs0, ?_⟩
            repeat (first | (refine wpX_skip rfl ?_; go_simp) | (refine wpX_free rfl rfl rfl (fun K hK => ?_); go_step; refine hK _ _ ?_; clear hK K) | (refine wpX_load rfl rfl rfl (by simp [Stay, OneD, NoD, *]) hs0 (by simp [*]) (fun K hK => ?_); go_step; refine hK _ _ ?_; clear hK K))
            (refine wpX_yield rfl rfl ((.bool false)) (fun w hw => by go_simp) ?_; go_simp)
            repeat (first | (refine wpX_skip rfl ?_; go_simp) | (refine wpX_free rfl rfl rfl (fun K hK => ?_); go_step; refine hK _ _ ?_; clear hK K) | (refine wpX_load rfl rfl rfl (by simp [Stay, OneD, NoD, *]) hs0 (by simp [*]) (fun K hK => ?_); go_step; refine hK _ _ ?_; clear hK K))
            refine wpX_eff rfl rfl (fun _ _ => ?_)
            go_step
            refine (right1_of ⟨p0, p1, p2, p3, 0, 0, r, s⟩ r bS _ (H.at 1 rfl)).mono ?_
            rintro _ w20 ⟨rfl, hb⟩
            replace hs0 := hs0.belowS hz0 hb
            replace hz0 := Nat.le_trans hz0 hb.size
            replace H := H.below hb
            clear hb
            try clear C
            have C := H.cells
            try simp only [cellsOf, apartOf, and_true] at C
            try clear w19
            dsimp only
            go_step
            refine ⟨hs0, ?_⟩
            repeat (first | (refine wpX_skip rfl ?_; go_simp) | (refine wpX_free rfl rfl rfl (fun K hK => ?_); go_step; refine hK _ _ ?_; clear hK K) | (refine wpX_load rfl rfl rfl (by simp [Stay, OneD, NoD, *]) hs0 (by simp [*]) (fun K hK => ?_); go_step; refine hK _ _ ?_; clear hK K))
            refine wpX_eff rfl rfl (fun _ _ => ?_)
            go_step
            refine (HV1.out _).mono ?_
            rintro _ w21 ⟨rfl, hb⟩
            replace hs0 := hs0.belowS hz0 hb
            replace hz0 := Nat.le_trans hz0 hb.size
            replace H := H.below hb
            clear hb
            try clear C
            have C := H.cells
            try simp only [cellsOf, apartOf, and_true] at C
            try clear w20
            dsimp only
            go_step
            refine ⟨hs0, ?_⟩
            repeat (first | (refine wpX_skip rfl ?_; go_simp) | (refine wpX_free rfl rfl rfl (fun K hK => ?_); go_step; refine hK _ _ ?_; clear hK K) | (refine wpX_load rfl rfl rfl (by simp [Stay, OneD, NoD, *]) hs0 (by simp [*]) (fun K hK => ?_); go_step; refine hK _ _ ?_; clear hK K))
            refine wpX_eff rfl rfl (fun _ _ => ?_)
            go_step
            refine (right1_of ⟨p0, p1, p2, p3, 0, 0, r, s⟩ s bS _ (H.at 1 rfl)).mono ?_
            rintro _ w22 ⟨rfl, hb⟩
            replace hs0 := hs0.belowS hz0 hb
            replace hz0 := Nat.le_trans hz0 hb.size
            replace H := H.below hb
            clear hb
            try clear C
            have C := H.cells
            try simp only [cellsOf, apartOf, and_true] at C
            try clear w21
            dsimp only
            go_step
            refine ⟨hs0, ?_⟩
            repeat (first | (refine wpX_skip rfl ?_; go_simp) | (refine wpX_free rfl rfl rfl (fun K hK => ?_); go_step; refine hK _ _ ?_; clear hK K) | (refine wpX_load rfl rfl rfl (by simp [Stay, OneD, NoD, *]) hs0 (by simp [*]) (fun K hK => ?_); go_step; refine hK _ _ ?_; clear hK K))
            refine wpX_eff rfl rfl (fun _ _ => ?_)
            go_step
            refine (HV2.out _).mono ?_
            rintro _ w23 ⟨rfl, hb⟩
            replace hs0 := hs0.belowS hz0 hb
            replace hz0 := Nat.le_trans hz0 hb.size
            replace H := H.below hb
            clear hb
            try clear C
            have C := H.cells
            try simp only [cellsOf, apartOf, and_true] at C
            try clear w22
            dsimp only
            go_step
            refine ⟨hs0, ?_⟩
            repeat (first | (refine wpX_skip rfl ?_; go_simp) | (refine wpX_free rfl rfl rfl (fun K hK => ?_); go_step; refine hK _ _ ?_; clear hK K) | (refine wpX_load rfl rfl rfl (by simp [Stay, OneD, NoD, *]) hs0 (by simp [*]) (fun K hK => ?_); go_step; refine hK _ _ ?_; clear hK K))
            refine wpX_eff rfl rfl (fun _ _ => ?_)
            go_step
            refine (HR1.out _).mono ?_
            rintro _ w24 ⟨rfl, hb⟩
            replace hs0 := hs0.belowS hz0 hb
            replace hz0 := Nat.le_trans hz0 hb.size
            replace H := H.below hb
            clear hb
            try clear C
            have C := H.cells
            try simp only [cellsOf, apartOf, and_true] at C
            try clear w23
            dsimp only
            go_step
            refine ⟨hs0, ?_⟩
            repeat (first | (refine wpX_skip rfl ?_; go_simp) | (refine wpX_free rfl rfl rfl (fun K hK => ?_); go_step; refine hK _ _ ?_; clear hK K) | (refine wpX_load rfl rfl rfl (by simp [Stay, OneD, NoD, *]) hs0 (by simp [*]) (fun K hK => ?_); go_step; refine hK _ _ ?_; clear hK K))
            refine wpX_eff rfl rfl (fun _ _ => ?_)
            go_step
            refine (HR2.out _).mono ?_
            rintro _ w25 ⟨rfl, hb⟩
            replace hs0 := hs0.belowS hz0 hb
            replace hz0 := Nat.le_trans hz0 hb.size
            replace H := H.below hb
            clear hb
            try clear C
            have C := H.cells
            try simp only [cellsOf, apartOf, and_true] at C
            try clear w24
            dsimp only
            go_step
            refine ⟨hs0, ?_⟩
            repeat (first | (refine wpX_skip rfl ?_; go_simp) | (refine wpX_free rfl rfl rfl (fun K hK => ?_); go_step; refine hK _ _ ?_; clear hK K) | (refine wpX_load rfl rfl rfl (by simp [Stay, OneD, NoD, *]) hs0 (by simp [*]) (fun K hK => ?_); go_step; refine hK _ _ ?_; clear hK K))
            (refine wpX_nil ?_; go_step)
            go_wp2_with fail
            go_ret
            refine ⟨?_, H.done⟩
            rw [HRB.out, HOK.out]
            rfl
      · have HV2 := Lib.hid (fun w => by have := HVP.out s w; rw [decide_eq_false hP2] at this; exact this : ∀ w, Calls Try.prog 58 #[v6 a0 a1 a2 a3 a4 a5, v6 p0 p1 p2 p3 s 0] w (Gives (.bool false) w))
        have HOK := Lib.hid (show okS a0 a1 a2 a3 a4 a5 n ⟨p0, p1, p2, p3, 0, 0, r, s⟩ = false by simp [okS, hP2])
        clear hP1 hP2
        skip
        refine wp_region_xH (by kernel_rfl) (by kernel_rfl) (by kernel_rfl) (by kernel_rfl) (fun _ => False) (H) ?_
        clear H; intro w26 H hz0 hs0
        try clear C
        try simp only [World.size_alloc, List.nil_append, List.cons_append, List.append_assoc] at H hz0
        clear hz0
        try clear w1
        have C := H.cells
        try simp only [cellsOf, apartOf, and_true] at C
        have Z := H.zs
        try simp only [ltsOf, and_true] at Z
        have hz0 := Nat.le_refl w26.heap.size
        repeat (first | (refine wpX_skip rfl ?_; go_simp) | (refine wpX_free rfl rfl rfl (fun K hK => ?_); go_step; refine hK _ _ ?_; clear hK K) | (refine wpX_load rfl rfl rfl (by simp [Stay, OneD, NoD, *]) hs0 (by simp [*]) (fun K hK => ?_); go_step; refine hK _ _ ?_; clear hK K))
        refine wpX_eff rfl rfl (fun _ _ => ?_)
        go_step
        refine (HBK.out _).mono ?_
        rintro _ w27 ⟨rfl, hb⟩
        replace hs0 := hs0.belowS hz0 hb
        replace hz0 := Nat.le_trans hz0 hb.size
        replace H := H.below hb
        clear hb
        try clear C
        have C := H.cells
        try simp only [cellsOf, apartOf, and_true] at C
        try clear w26
        dsimp only
        go_step
        refine ⟨hs0, ?_⟩
        repeat (first | (refine wpX_skip rfl ?_; go_simp) | (refine wpX_free rfl rfl rfl (fun K hK => ?_); go_step; refine hK _ _ ?_; clear hK K) | (refine wpX_load rfl rfl rfl (by simp [Stay, OneD, NoD, *]) hs0 (by simp [*]) (fun K hK => ?_); go_step; refine hK _ _ ?_; clear hK K))
        (refine wpX_yield rfl rfl ((.bool false)) (fun w hw => by go_simp) ?_; go_simp)
        repeat (first | (refine wpX_skip rfl ?_; go_simp) | (refine wpX_free rfl rfl rfl (fun K hK => ?_); go_step; refine hK _ _ ?_; clear hK K) | (refine wpX_load rfl rfl rfl (by simp [Stay, OneD, NoD, *]) hs0 (by simp [*]) (fun K hK => ?_); go_step; refine hK _ _ ?_; clear hK K))
        refine wpX_eff rfl rfl (fun _ _ => ?_)
        go_step
        refine (right1_of ⟨p0, p1, p2, p3, 0, 0, r, s⟩ r bS _ (H.at 1 rfl)).mono ?_
        rintro _ w28 ⟨rfl, hb⟩
        replace hs0 := hs0.belowS hz0 hb
        replace hz0 := Nat.le_trans hz0 hb.size
        replace H := H.below hb
        clear hb
        try clear C
        have C := H.cells
        try simp only [cellsOf, apartOf, and_true] at C
        try clear w27
        dsimp only
        go_step
        refine ⟨hs0, ?_⟩
        repeat (first | (refine wpX_skip rfl ?_; go_simp) | (refine wpX_free rfl rfl rfl (fun K hK => ?_); go_step; refine hK _ _ ?_; clear hK K) | (refine wpX_load rfl rfl rfl (by simp [Stay, OneD, NoD, *]) hs0 (by simp [*]) (fun K hK => ?_); go_step; refine hK _ _ ?_; clear hK K))
        refine wpX_eff rfl rfl (fun _ _ => ?_)
        go_step
        refine (HV1.out _).mono ?_
        rintro _ w29 ⟨rfl, hb⟩
        replace hs0 := hs0.belowS hz0 hb
        replace hz0 := Nat.le_trans hz0 hb.size
        replace H := H.below hb
        clear hb
        try clear C
        have C := H.cells
        try simp only [cellsOf, apartOf, and_true] at C
        try clear w28
        dsimp only
        go_step
        refine ⟨hs0, ?_⟩
        repeat (first | (refine wpX_skip rfl ?_; go_simp) | (refine wpX_free rfl rfl rfl (fun K hK => ?_); go_step; refine hK _ _ ?_; clear hK K) | (refine wpX_load rfl rfl rfl (by simp [Stay, OneD, NoD, *]) hs0 (by simp [*]) (fun K hK => ?_); go_step; refine hK _ _ ?_; clear hK K))
        refine wpX_eff rfl rfl (fun _ _ => ?_)
        go_step
        refine (right1_of ⟨p0, p1, p2, p3, 0, 0, r, s⟩ s bS _ (H.at 1 rfl)).mono ?_
        rintro _ w30 ⟨rfl, hb⟩
        replace hs0 := hs0.belowS hz0 hb
        replace hz0 := Nat.le_trans hz0 hb.size
        replace H := H.below hb
        clear hb
        try clear C
        have C := H.cells
        try simp only [cellsOf, apartOf, and_true] at C
        try clear w29
        dsimp only
        go_step
        refine ⟨hs0, ?_⟩
        repeat (first | (refine wpX_skip rfl ?_; go_simp) | (refine wpX_free rfl rfl rfl (fun K hK => ?_); go_step; refine hK _ _ ?_; clear hK K) | (refine wpX_load rfl rfl rfl (by simp [Stay, OneD, NoD, *]) hs0 (by simp [*]) (fun K hK => ?_); go_step; refine hK _ _ ?_; clear hK K))
        refine wpX_eff rfl rfl (fun _ _ => ?_)
        go_step
        refine (HV2.out _).mono ?_
        rintro _ w31 ⟨rfl, hb⟩
        replace hs0 := hs0.belowS hz0 hb
        replace hz0 := Nat.le_trans hz0 hb.size
        replace H := H.below hb
        clear hb
        try clear C
        have C := H.cells
        try simp only [cellsOf, apartOf, and_true] at C
        try clear w30
        dsimp only
        go_step
        refine ⟨hs0, ?_⟩
        repeat (first | (refine wpX_skip rfl ?_; go_simp) | (refine wpX_free rfl rfl rfl (fun K hK => ?_); go_step; refine hK _ _ ?_; clear hK K) | (refine wpX_load rfl rfl rfl (by simp [Stay, OneD, NoD, *]) hs0 (by simp [*]) (fun K hK => ?_); go_step; refine hK _ _ ?_; clear hK K))
        (refine wpX_nil ?_; go_step)
        go_wp2_with fail
        go_ret
        refine ⟨?_, H.done⟩
        rw [HRB.out, HOK.out]
        rfl
    · have HV1 := Lib.hid (fun w => by have := HVP.out r w; rw [decide_eq_false hP1] at this; exact this : ∀ w, Calls Try.prog 58 #[v6 a0 a1 a2 a3 a4 a5, v6 p0 p1 p2 p3 r 0] w (Gives (.bool false) w))
      have HOK := Lib.hid (show okS a0 a1 a2 a3 a4 a5 n ⟨p0, p1, p2, p3, 0, 0, r, s⟩ = false by simp [okS, hP1])
      clear hP1
      skip
      refine wp_region_xH (by kernel_rfl) (by kernel_rfl) (by kernel_rfl) (by kernel_rfl) (fun _ => False) (H) ?_
      clear H; intro w32 H hz0 hs0
      try clear C
      try simp only [World.size_alloc, List.nil_append, List.cons_append, List.append_assoc] at H hz0
      clear hz0
      try clear w1
      have C := H.cells
      try simp only [cellsOf, apartOf, and_true] at C
      have Z := H.zs
      try simp only [ltsOf, and_true] at Z
      have hz0 := Nat.le_refl w32.heap.size
      repeat (first | (refine wpX_skip rfl ?_; go_simp) | (refine wpX_free rfl rfl rfl (fun K hK => ?_); go_step; refine hK _ _ ?_; clear hK K) | (refine wpX_load rfl rfl rfl (by simp [Stay, OneD, NoD, *]) hs0 (by simp [*]) (fun K hK => ?_); go_step; refine hK _ _ ?_; clear hK K))
      refine wpX_eff rfl rfl (fun _ _ => ?_)
      go_step
      refine (HBK.out _).mono ?_
      rintro _ w33 ⟨rfl, hb⟩
      replace hs0 := hs0.belowS hz0 hb
      replace hz0 := Nat.le_trans hz0 hb.size
      replace H := H.below hb
      clear hb
      try clear C
      have C := H.cells
      try simp only [cellsOf, apartOf, and_true] at C
      try clear w32
      dsimp only
      go_step
      refine ⟨hs0, ?_⟩
      repeat (first | (refine wpX_skip rfl ?_; go_simp) | (refine wpX_free rfl rfl rfl (fun K hK => ?_); go_step; refine hK _ _ ?_; clear hK K) | (refine wpX_load rfl rfl rfl (by simp [Stay, OneD, NoD, *]) hs0 (by simp [*]) (fun K hK => ?_); go_step; refine hK _ _ ?_; clear hK K))
      (refine wpX_yield rfl rfl ((.bool false)) (fun w hw => by go_simp) ?_; go_simp)
      repeat (first | (refine wpX_skip rfl ?_; go_simp) | (refine wpX_free rfl rfl rfl (fun K hK => ?_); go_step; refine hK _ _ ?_; clear hK K) | (refine wpX_load rfl rfl rfl (by simp [Stay, OneD, NoD, *]) hs0 (by simp [*]) (fun K hK => ?_); go_step; refine hK _ _ ?_; clear hK K))
      refine wpX_eff rfl rfl (fun _ _ => ?_)
      go_step
      refine (right1_of ⟨p0, p1, p2, p3, 0, 0, r, s⟩ r bS _ (H.at 1 rfl)).mono ?_
      rintro _ w34 ⟨rfl, hb⟩
      replace hs0 := hs0.belowS hz0 hb
      replace hz0 := Nat.le_trans hz0 hb.size
      replace H := H.below hb
      clear hb
      try clear C
      have C := H.cells
      try simp only [cellsOf, apartOf, and_true] at C
      try clear w33
      dsimp only
      go_step
      refine ⟨hs0, ?_⟩
      repeat (first | (refine wpX_skip rfl ?_; go_simp) | (refine wpX_free rfl rfl rfl (fun K hK => ?_); go_step; refine hK _ _ ?_; clear hK K) | (refine wpX_load rfl rfl rfl (by simp [Stay, OneD, NoD, *]) hs0 (by simp [*]) (fun K hK => ?_); go_step; refine hK _ _ ?_; clear hK K))
      refine wpX_eff rfl rfl (fun _ _ => ?_)
      go_step
      refine (HV1.out _).mono ?_
      rintro _ w35 ⟨rfl, hb⟩
      replace hs0 := hs0.belowS hz0 hb
      replace hz0 := Nat.le_trans hz0 hb.size
      replace H := H.below hb
      clear hb
      try clear C
      have C := H.cells
      try simp only [cellsOf, apartOf, and_true] at C
      try clear w34
      dsimp only
      go_step
      refine ⟨hs0, ?_⟩
      repeat (first | (refine wpX_skip rfl ?_; go_simp) | (refine wpX_free rfl rfl rfl (fun K hK => ?_); go_step; refine hK _ _ ?_; clear hK K) | (refine wpX_load rfl rfl rfl (by simp [Stay, OneD, NoD, *]) hs0 (by simp [*]) (fun K hK => ?_); go_step; refine hK _ _ ?_; clear hK K))
      (refine wpX_nil ?_; go_step)
      go_wp2_with fail
      go_ret
      refine ⟨?_, H.done⟩
      rw [HRB.out, HOK.out]
      rfl
  · have HOK := Lib.hid (show okS a0 a1 a2 a3 a4 a5 n ⟨p0, p1, p2, p3, p4, p5, r, s⟩ = false by unfold okS; rw [decide_eq_false hB]; rfl)
    by_cases h4 : p4 = 0
    · subst h4
      have h5 : ¬ p5 = 0 := fun e => hB ⟨rfl, e⟩
      clear hB
      skip
      refine wp_region_xH (by kernel_rfl) (by kernel_rfl) (by kernel_rfl) (by kernel_rfl) (fun _ => False) (H) ?_
      clear H; intro w36 H hz0 hs0
      try clear C
      try simp only [World.size_alloc, List.nil_append, List.cons_append, List.append_assoc] at H hz0
      clear hz0
      try clear w1
      have C := H.cells
      try simp only [cellsOf, apartOf, and_true] at C
      have Z := H.zs
      try simp only [ltsOf, and_true] at Z
      have hz0 := Nat.le_refl w36.heap.size
      repeat (first | (refine wpX_skip rfl ?_; go_simp) | (refine wpX_free rfl rfl rfl (fun K hK => ?_); go_step; refine hK _ _ ?_; clear hK K) | (refine wpX_load rfl rfl rfl (by simp [Stay, OneD, NoD, *]) hs0 (by simp [*]) (fun K hK => ?_); go_step; refine hK _ _ ?_; clear hK K))
      refine wpX_eff rfl rfl (fun _ _ => ?_)
      go_step
      refine (HBK.out _).mono ?_
      rintro _ w37 ⟨rfl, hb⟩
      replace hs0 := hs0.belowS hz0 hb
      replace hz0 := Nat.le_trans hz0 hb.size
      replace H := H.below hb
      clear hb
      try clear C
      have C := H.cells
      try simp only [cellsOf, apartOf, and_true] at C
      try clear w36
      dsimp only
      go_step
      refine ⟨hs0, ?_⟩
      repeat (first | (refine wpX_skip rfl ?_; go_simp) | (refine wpX_free rfl rfl rfl (fun K hK => ?_); go_step; refine hK _ _ ?_; clear hK K) | (refine wpX_load rfl rfl rfl (by simp [Stay, OneD, NoD, *]) hs0 (by simp [*]) (fun K hK => ?_); go_step; refine hK _ _ ?_; clear hK K))
      (refine wpX_yield rfl rfl ((.bool true)) (fun w hw => by go_simp) ?_; go_simp)
      repeat (first | (refine wpX_skip rfl ?_; go_simp) | (refine wpX_free rfl rfl rfl (fun K hK => ?_); go_step; refine hK _ _ ?_; clear hK K) | (refine wpX_load rfl rfl rfl (by simp [Stay, OneD, NoD, *]) hs0 (by simp [*]) (fun K hK => ?_); go_step; refine hK _ _ ?_; clear hK K))
      (refine wpX_nil ?_; go_step)
      go_wp2_with fail
      go_ret
      refine ⟨?_, H.done⟩
      rw [HRB.out, HOK.out]
      rfl
    · clear hB
      skip
      refine wp_region_xH (by kernel_rfl) (by kernel_rfl) (by kernel_rfl) (by kernel_rfl) (fun _ => False) (H) ?_
      clear H; intro w38 H hz0 hs0
      try clear C
      try simp only [World.size_alloc, List.nil_append, List.cons_append, List.append_assoc] at H hz0
      clear hz0
      try clear w1
      have C := H.cells
      try simp only [cellsOf, apartOf, and_true] at C
      have Z := H.zs
      try simp only [ltsOf, and_true] at Z
      have hz0 := Nat.le_refl w38.heap.size
      repeat (first | (refine wpX_skip rfl ?_; go_simp) | (refine wpX_free rfl rfl rfl (fun K hK => ?_); go_step; refine hK _ _ ?_; clear hK K) | (refine wpX_load rfl rfl rfl (by simp [Stay, OneD, NoD, *]) hs0 (by simp [*]) (fun K hK => ?_); go_step; refine hK _ _ ?_; clear hK K))
      refine wpX_eff rfl rfl (fun _ _ => ?_)
      go_step
      refine (HBK.out _).mono ?_
      rintro _ w39 ⟨rfl, hb⟩
      replace hs0 := hs0.belowS hz0 hb
      replace hz0 := Nat.le_trans hz0 hb.size
      replace H := H.below hb
      clear hb
      try clear C
      have C := H.cells
      try simp only [cellsOf, apartOf, and_true] at C
      try clear w38
      dsimp only
      go_step
      refine ⟨hs0, ?_⟩
      repeat (first | (refine wpX_skip rfl ?_; go_simp) | (refine wpX_free rfl rfl rfl (fun K hK => ?_); go_step; refine hK _ _ ?_; clear hK K) | (refine wpX_load rfl rfl rfl (by simp [Stay, OneD, NoD, *]) hs0 (by simp [*]) (fun K hK => ?_); go_step; refine hK _ _ ?_; clear hK K))
      (refine wpX_yield rfl rfl ((.bool true)) (fun w hw => by go_simp) ?_; go_simp)
      repeat (first | (refine wpX_skip rfl ?_; go_simp) | (refine wpX_free rfl rfl rfl (fun K hK => ?_); go_step; refine hK _ _ ?_; clear hK K) | (refine wpX_load rfl rfl rfl (by simp [Stay, OneD, NoD, *]) hs0 (by simp [*]) (fun K hK => ?_); go_step; refine hK _ _ ?_; clear hK K))
      (refine wpX_nil ?_; go_step)
      go_wp2_with fail
      go_ret
      refine ⟨?_, H.done⟩
      rw [HRB.out, HOK.out]
      rfl
end Go.Proofs.Ytcacgmfihhpliaa
