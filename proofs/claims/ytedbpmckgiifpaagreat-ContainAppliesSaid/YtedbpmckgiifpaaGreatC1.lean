/- Frames: valid ones, free ones (packages frame, contain, memfaultref28). -/
import Derived.Test.YtedbpmckgiifpaaGreatCLaw
import Derived.Test.YtedbpmckgiifpaaGreatVld2
namespace Go.Proofs.YtedbpmckgiifpaaGreat
set_option linter.unusedSimpArgs false
set_option linter.unusedVariables false
open Go.RowKit
set_option maxRecDepth 100000
attribute [local go_sem] lt_more ne_more ne_more'
attribute [local irreducible] wpX wpF Calls

def frC (x : Fr) : List Value := [.int .i64 x.st, .int .i64 x.bl]
theorem frC_len (x : Fr) : (frC x).length = 2 := rfl
theorem infoFr : (Tryz.prog.info? 47).map (fun i => (i.zero, i.size, i.bytes)) = some (some (.agg #[.int .i64 0, .int .i64 0]), 2, 16) := by kernel_rfl
theorem elemFr : Elem Tryz.prog 27 47 (.agg #[.int .i64 0, .int .i64 0]) 2 16 := Elem.mk' Tryz.underlying27 infoFr rfl (by decide)
/-- What a search over a slice by a test hands back. -/
def FindPostFr (p : Fr → Bool) (xs : List Fr) (w : World) (e : Ending) (w' : World) : Prop :=
  ∃ r : Int, e = .returned (.int .i64 r) ∧ ((r = -1 ∧ ∀ i, i < xs.length → p xs[i]! = false) ∨ ∃ i : Nat, i < xs.length ∧ r = i ∧ p xs[i]! = true ∧ ∀ j, j < i → p xs[j]! = false) ∧ Below w.heap.size w w'
/-- The closure g with the captured addresses lb answers by p. -/
def AsksFr (g : Nat) (lb : Array Value) (p : Fr → Bool) (w : World) : Prop := ∀ W x, Below w.heap.size w W → Calls Tryz.prog g (#[.agg (frC x).toArray] ++ lb) W (Gives (.bool (p x)) W)
set_option maxHeartbeats 2000000 in
theorem findFr (g : Nat) (eg : ∀ args w, (callFunc g args).run Tryz.prog w = .ok (.enter g args) w) (lb : Array Value) (p : Fr → Bool) {sa : Option Addr} (c : Nat) {xs : List Fr} (hx : xs.length ≤ 100000) (w : World) (hl : Lies w w.heap.size sa 2 xs.length (fun j => frC xs[j]!)) (hp : AsksFr g lb p w) :
    Calls Tryz.prog 75 #[.slice sa xs.length c, .func (.func g) #[] lb] w (FindPostFr p xs w) := by
  have HL := Lib.hid hl
  have HP := Lib.hid hp
  clear hl hp
  go_enter Tryz.func75, Tryz.ntmps75
  have H := HS.start NoD w
  go_wp2_with fail
  go_loopw [5, 8] (fun _ i wr => ∃ (j : Nat), i = .int .i64 j ∧ j ≤ xs.length ∧ Hid (∀ i, i < j → p xs[i]! = false) ∧ HS NoD w [] wr) (fun _ i _ => xs.length - (intOf i).toNat)
  case atStart => exact ⟨0, rfl, Nat.zero_le _, fun i hi => absurd hi (Nat.not_lt_zero _), H⟩
  case round =>
    clear H
    obtain ⟨j, rfl, hj, HF, H⟩ := hrel
    skip
    by_cases hlt : j < xs.length
    · obtain ⟨b, o, rfl, hb, hc⟩ := (H.lies HL.out).at hlt
      have hcall := Lib.hid (fun (b : Bool) (e : p xs[j]! = b) => by have := HP.out wr xs[j]! H.done; rw [e] at this; exact this)
      obtain ⟨x, hxj⟩ : ∃ x, x = xs[j]! := ⟨_, rfl⟩
      rw [← hxj] at hc hcall
      have c0 : wr.cell? ⟨b, o + j * 2, none⟩ = _ := hc 0 _ rfl
      have c1 : wr.cell? ⟨b, o + j * 2 + 1, none⟩ = _ := hc 1 _ rfl
      have HX := Lib.hid hxj
      clear hc hxj
      cases hq : p x with
      | true =>
        have HQ := Lib.hid hq
        have hca := hcall.out _ hq
        clear hq hcall
        go_wp2_with fail
        refine hca.mono ?_
        rintro _ w1 ⟨rfl, hb1⟩
        clear hca
        go_wp2_with fail
        go_ret
        exact ⟨_, rfl, .inr ⟨j, hlt, rfl, by rw [← HX.out]; exact HQ.out, HF.out⟩, (H.below hb1).done⟩
      | false =>
        have HQ := Lib.hid hq
        have hca := hcall.out _ hq
        clear hq hcall
        go_wp2_with fail
        refine hca.mono ?_
        rintro _ w1 ⟨rfl, hb1⟩
        clear hca
        go_wp2_with fail
        go_roundw
        case rel =>
          refine ⟨j + 1, by go_num, by omega, (show Hid _ from fun i hi => ?_), H.below hb1⟩
          by_cases e : i = j
          · subst e; rw [← HX.out]; exact HQ.out
          · exact HF.out i (by omega)
        case measure => simp [intOf]; omega
    · go_wp2_with fail
      go_ret
      exact ⟨-1, rfl, .inl ⟨rfl, fun i hi => HF.out i (by omega)⟩, H.done⟩
theorem any_ofFr {p : Fr → Bool} {xs : List Fr} {r : Int} (h : (r = -1 ∧ ∀ i, i < xs.length → p xs[i]! = false) ∨ ∃ i : Nat, i < xs.length ∧ r = i ∧ p xs[i]! = true ∧ ∀ j, j < i → p xs[j]! = false) : decide (0 ≤ r) = xs.any p := by
  rcases h with ⟨rfl, h⟩ | ⟨i, hi, rfl, h, -⟩
  · symm
    rw [show decide ((0 : Int) ≤ -1) = false from rfl, List.any_eq_false]
    intro x hx
    obtain ⟨i, hi, rfl⟩ := List.getElem_of_mem hx
    have := h i hi
    rw [getElem!_pos xs i hi] at this
    simp [this]
  · symm
    rw [show decide ((0 : Int) ≤ (i : Int)) = true by simp, List.any_eq_true]
    exact ⟨xs[i]!, by rw [getElem!_pos xs i hi]; exact List.getElem_mem _, h⟩
theorem containsFr (g : Nat) (eg : ∀ args w, (callFunc g args).run Tryz.prog w = .ok (.enter g args) w) (lb : Array Value) (p : Fr → Bool) {sa : Option Addr} (c : Nat) {xs : List Fr} (hx : xs.length ≤ 100000) (w : World) (hl : Lies w w.heap.size sa 2 xs.length (fun j => frC xs[j]!)) (hp : AsksFr g lb p w) :
    Calls Tryz.prog 61 #[.slice sa xs.length c, .func (.func g) #[] lb] w (Gives (.bool (xs.any p)) w) := by
  have hf := Lib.hid (findFr g eg lb p c hx w hl hp)
  clear hl hp
  go_enter Tryz.func61, Tryz.ntmps61
  have H := HS.start NoD w
  go_wp2_with fail
  refine (hf.out).mono ?_
  rintro _ w1 ⟨r, rfl, hr, hb⟩
  replace H := H.below hb
  clear hb
  try clear C
  try simp only [World.size_alloc, List.nil_append, List.cons_append, List.append_assoc] at H
  have C := H.cells
  try simp only [cellsOf, cellsM, apartOf, apartM, and_true] at C
  dsimp only
  go_wp2_with fail
  go_ret
  exact ⟨by rw [← any_ofFr hr]; rfl, H.done⟩

theorem fit_any (s b : Int) (w : World) : Calls Tryz.prog 63 #[.int .i64 s, .int .i64 b] w (Gives (.bool (fitB s b)) w) := by
  by_cases h1 : s = 1
  · subst h1
    by_cases h2 : 1 ≤ b
    · go_enter Tryz.func63, Tryz.ntmps63
      have H := HS.start NoD w
      go_wp2_with fail
      go_ret
      exact ⟨by unfold fitB; simp [h2], H.done⟩
    · go_enter Tryz.func63, Tryz.ntmps63
      have H := HS.start NoD w
      go_wp2_with fail
      go_ret
      exact ⟨by unfold fitB; simp; omega, H.done⟩
  · have hb : (s == 1) = false := beq_eq_false_iff_ne.2 h1
    by_cases h2 : 0 ≤ s
    · by_cases h3 : s ≤ 5
      · go_enter Tryz.func63, Tryz.ntmps63
        have H := HS.start NoD w
        go_wp2_with fail
        go_ret
        exact ⟨by unfold fitB; simp [h1, h2, h3]; rfl, H.done⟩
      · go_enter Tryz.func63, Tryz.ntmps63
        have H := HS.start NoD w
        go_wp2_with fail
        go_ret
        exact ⟨by unfold fitB; simp [h1]; omega, H.done⟩
    · go_enter Tryz.func63, Tryz.ntmps63
      have H := HS.start NoD w
      go_wp2_with fail
      go_ret
      exact ⟨by unfold fitB; simp [h1]; omega, H.done⟩
theorem fvalid1_any (x : Fr) (w : World) : Calls Tryz.prog 62 #[.agg (frC x).toArray] w (Gives (.bool (!fitB x.st x.bl)) w) := by
  obtain ⟨s, b⟩ := x
  have HF := Lib.hid (fun w => fit_any s b w)
  dsimp only
  generalize fitB s b = r at HF
  show Calls Tryz.prog 62 #[.agg #[.int .i64 s, .int .i64 b]] w _
  go_enter Tryz.func62, Tryz.ntmps62
  have H := HS.start NoD w
  go_wp2_with fail
  refine (HF.out _).mono ?_
  rintro _ w1 ⟨rfl, hb⟩
  replace H := H.alloc.below hb
  clear hb
  try clear C
  try simp only [World.size_alloc, List.nil_append, List.cons_append, List.append_assoc] at H
  generalize w.heap.size = bx at H ⊢
  have C := H.cells
  try simp only [cellsOf, cellsM, apartOf, apartM, and_true] at C
  dsimp only
  go_wp2_with fail
  go_ret
  exact ⟨rfl, H.done⟩
theorem fvalid_any {F : List Fr} (hF : FrV F) {sa : Option Addr} (c : Nat) (w : World) (hl : Lies w w.heap.size sa 2 F.length (fun j => frC F[j]!)) :
    Calls Tryz.prog 42 #[.slice sa F.length c] w (Gives (.bool true) w) := by
  have h1 := hF.low
  have h2 := hF.high
  have hany : F.any (fun x => !fitB x.st x.bl) = false := by
    rw [List.any_eq_false]
    intro x hx
    rw [hF.fit x hx]; decide
  have hcon := containsFr 62 (fun _ _ => rfl) #[] (fun x => !fitB x.st x.bl) c (by omega) w hl (fun W x _ => fvalid1_any x W)
  rw [hany] at hcon
  have HCO := Lib.hid hcon
  have h1i : (1 : Int) ≤ F.length := by omega
  have h2i : (F.length : Int) ≤ 64 := by omega
  clear hcon hl hany hF
  go_enter Tryz.func42, Tryz.ntmps42
  have H := HS.start NoD w
  go_wp2_with fail
  refine (HCO.out).mono ?_
  rintro _ w1 ⟨rfl, hb⟩
  replace H := H.below hb
  clear hb
  try clear C
  try simp only [World.size_alloc, List.nil_append, List.cons_append, List.append_assoc] at H
  have C := H.cells
  try simp only [cellsOf, cellsM, apartOf, apartM, and_true] at C
  dsimp only
  go_wp2_with fail
  go_ret
  exact ⟨by simp, H.done⟩
theorem cvalid_any {F : List Fr} (hF : FrV F) {ps : List Pr} (hg : GoodP F.length ps) {sa : Option Addr} (c : Nat) {v : Value} (w : World) (hl : Lies w w.heap.size sa 2 F.length (fun j => frC F[j]!)) (hp : Ps w w.heap.size v ps) :
    Calls Tryz.prog 22 #[.slice sa F.length c, v] w (Gives (.bool true) w) := by
  have HV := Lib.hid (fvalid_any hF c w hl)
  have HO := Lib.hid (fun w h => ovalid_any (v := v) hg w h)
  have HPS := Lib.hid hp
  clear hl hp
  go_enter Tryz.func22, Tryz.ntmps22
  have H := HS.start NoD w
  go_wp2_with fail
  refine (HV.out).mono ?_
  rintro _ w1 ⟨rfl, hb⟩
  replace H := H.below hb
  clear hb
  try clear C
  try simp only [World.size_alloc, List.nil_append, List.cons_append, List.append_assoc] at H
  have C := H.cells
  try simp only [cellsOf, cellsM, apartOf, apartM, and_true] at C
  dsimp only
  go_wp2_with fail
  refine (HO.out _ (H.psUp HPS.out)).mono ?_
  rintro _ w2 ⟨rfl, hb⟩
  replace H := H.below hb
  clear hb
  try clear C
  try simp only [World.size_alloc, List.nil_append, List.cons_append, List.append_assoc] at H
  try clear w1
  have C := H.cells
  try simp only [cellsOf, cellsM, apartOf, apartM, and_true] at C
  dsimp only
  go_wp2_with fail
  go_ret
  exact ⟨by simp, H.done⟩
theorem cfree_any (f : Int) {F : List Fr} (hx : F.length ≤ 1000) {sa : Option Addr} (c : Nat) (w : World) (hl : Lies w w.heap.size sa 2 F.length (fun j => frC F[j]!)) :
    Calls Tryz.prog 23 #[.slice sa F.length c, .int .i64 f] w (Gives (.bool (freeAtF F f)) w) := by
  have HL := Lib.hid hl
  clear hl
  by_cases h1 : 0 ≤ f
  · by_cases h2 : f < F.length
    · obtain ⟨k, rfl⟩ : ∃ k : Nat, f = k := ⟨f.toNat, by omega⟩
      have hk : k < F.length := by omega
      obtain ⟨b, o, rfl, hb, hc⟩ := HL.out.at hk
      obtain ⟨s, hs⟩ : ∃ s, s = (F[k]!).st := ⟨_, rfl⟩
      have c0 : w.cell? ⟨b, o + k * 2, none⟩ = some (.int .i64 s) := by rw [hs]; exact hc 0 _ rfl
      have HR := Lib.hid (show freeAtF F (k : Int) = decide (s = 0) by unfold freeAtF; rw [hs]; simp [hk])
      rw [HR.out]
      clear hc hs
      go_enter Tryz.func23, Tryz.ntmps23
      have H := HS.start NoD w
      go_wp2_with fail
      go_ret
      exact ⟨by simp; rfl, H.done⟩
    · have HR := Lib.hid (show freeAtF F f = false by unfold freeAtF; simp; omega)
      rw [HR.out]
      go_enter Tryz.func23, Tryz.ntmps23
      have H := HS.start NoD w
      go_wp2_with fail
      go_ret
      exact ⟨by first | rfl | (simp; omega), H.done⟩
  · have HR := Lib.hid (show freeAtF F f = false by unfold freeAtF; simp; omega)
    rw [HR.out]
    go_enter Tryz.func23, Tryz.ntmps23
    have H := HS.start NoD w
    go_wp2_with fail
    go_ret
    exact ⟨by first | rfl | (simp; omega), H.done⟩
theorem r28free_any {F : List Fr} (hx : F.length ≤ 1000) {sa : Option Addr} (c : Nat) (w : World) (hl : Lies w w.heap.size sa 2 F.length (fun j => frC F[j]!)) :
    Calls Tryz.prog 10 #[.slice sa F.length c] w (Gives (.int .i64 (freeI F)) w) := by
  have HL := Lib.hid hl
  clear hl
  obtain ⟨r, hr⟩ : ∃ r, r = freeI F := ⟨_, rfl⟩
  rw [← hr]
  have HR := Lib.hid hr
  clear hr
  go_enter Tryz.func10, Tryz.ntmps10
  have H := HS.start NoD w
  go_wp2_with fail
  go_loopw [7] (fun i wr => ∃ (j : Nat), i = .int .i64 j ∧ j ≤ F.length ∧ Hid (∀ i, i < j → decide ((F[i]!).st = 0) = false) ∧ HS NoD w [] wr) (fun i _ => F.length - (intOf i).toNat)
  case atStart => exact ⟨0, rfl, Nat.zero_le _, fun i hi => absurd hi (Nat.not_lt_zero _), H⟩
  case round =>
    clear H
    obtain ⟨j, rfl, hj, HF, H⟩ := hrel
    skip
    by_cases hlt : j < F.length
    · obtain ⟨b, o, rfl, hb, hc⟩ := (H.lies HL.out).at hlt
      obtain ⟨xo, hxo⟩ : ∃ x, x = F[j]! := ⟨_, rfl⟩
      rw [← hxo] at hc
      have HX := Lib.hid hxo
      obtain ⟨s, bl⟩ := xo
      have c0 : wr.cell? ⟨b, o + j * 2, none⟩ = some (.int .i64 s) := hc 0 _ rfl
      have c1 : wr.cell? ⟨b, o + j * 2 + 1, none⟩ = some (.int .i64 bl) := hc 1 _ rfl
      clear hc hxo
      go_upto_region 4 with fail
      clear c0 c1
      generalize hwb : wr.alloc _ = w1
      replace H := HS.eqW hwb H.alloc
      try simp only [World.size_alloc, List.nil_append, List.cons_append, List.append_assoc] at H
      clear hwb
      generalize wr.heap.size = bX at H ⊢
      try clear C
      try clear wr
      have C := H.cells
      try simp only [cellsOf, cellsM, apartOf, apartM, and_true] at C
      by_cases hq : s = 0
      · subst hq
        skip
        go_wp2_with fail
        go_ret
        exact ⟨ret_int (by rw [HR.out]; unfold freeI; rw [findIdx_first hlt (by rw [← HX.out]; rfl) HF.out]; rfl), H.done⟩
      · have hqb : (s == 0) = false := beq_eq_false_iff_ne.2 hq
        skip
        go_wp2_with fail
        go_roundw
        case rel =>
          refine ⟨j + 1, by go_num, by omega, (show Hid _ from fun i hi => ?_), H.less (by repeat (first | exact .slnil | refine .cons_cons _ ?_ | refine .cons _ ?_))⟩
          rcases Nat.lt_succ_iff_lt_or_eq.1 hi with hi | rfl
          · exact HF.out i hi
          · rw [← HX.out]; exact decide_eq_false hq
        case measure => simp [intOf]; omega
    · go_wp2_with fail
      go_ret
      exact ⟨ret_int (by rw [HR.out]; unfold freeI; rw [findIdx_none fun i hi => HF.out i (by omega)]; rfl), H.done⟩
end Go.Proofs.YtedbpmckgiifpaaGreat
