/- Package rate: searching gauges. -/
import Derived.Test.YtdcieajdgmopkaaRate
namespace Go.Proofs.Ytdcieajdgmopkaa
set_option linter.unusedSimpArgs false
set_option linter.unusedVariables false
open Go.RowKit
set_option maxRecDepth 100000
attribute [local go_sem] lt_more ne_more ne_more'

/-- What a search over a slice by a test hands back. -/
def FindPostG (p : G3 → Bool) (xs : List G3) (w : World) (e : Ending) (w' : World) : Prop :=
  ∃ r : Int, e = .returned (.int .i64 r) ∧ ((r = -1 ∧ ∀ i, i < xs.length → p xs[i]! = false) ∨ ∃ i : Nat, i < xs.length ∧ r = i ∧ p xs[i]! = true ∧ ∀ j, j < i → p xs[j]! = false) ∧ Below w.heap.size w w'
/-- The closure g with the captured addresses lb answers by p. -/
def AsksG (g : Nat) (lb : Array Value) (p : G3 → Bool) (w : World) : Prop := ∀ W x, Below w.heap.size w W → Calls Try.prog g (#[.agg (gC x).toArray] ++ lb) W (Gives (.bool (p x)) W)
set_option maxHeartbeats 2000000 in
theorem findG (g : Nat) (eg : ∀ args w, (callFunc g args).run Try.prog w = .ok (.enter g args) w) (lb : Array Value) (p : G3 → Bool) {sa : Option Addr} (c : Nat) {xs : List G3} (hx : xs.length ≤ 100000) (w : World) (hl : Lies w w.heap.size sa 3 xs.length (fun j => gC xs[j]!)) (hp : AsksG g lb p w) :
    Calls Try.prog 25 #[.slice sa xs.length c, .func (.func g) #[] lb] w (FindPostG p xs w) := by
  have HL := Lib.hid hl
  have HP := Lib.hid hp
  clear hl hp
  go_enter Try.func25, Try.ntmps25
  have H := HS.start NoD w
  go_wp2_with fail
  go_loopw [5, 8] (fun _ i wr => ∃ (j : Nat), i = .int .i64 j ∧ j ≤ xs.length ∧ Hid (∀ i, i < j → p xs[i]! = false) ∧ HS NoD w [] wr) (fun _ i _ => xs.length - (intOf i).toNat)
  case atStart => exact ⟨0, rfl, Nat.zero_le _, fun i hi => absurd hi (Nat.not_lt_zero _), H⟩
  case round =>
    clear H
    obtain ⟨j, rfl, hj, HF, H⟩ := hrel
    skip
    by_cases hlt : j < xs.length
    · obtain ⟨b, o, rfl, hb, hc⟩ := (H.lies HL.out).at hlt
      have hcall := Lib.hid (fun (b : Bool) (e : p xs[j]! = b) => by have := HP.out wr xs[j]! H.done; rw [e] at this; exact this)
      obtain ⟨x, hxj⟩ : ∃ x, x = xs[j]! := ⟨_, rfl⟩
      rw [← hxj] at hc hcall
      have c0 : wr.cell? ⟨b, o + j * 3, none⟩ = _ := hc 0 _ rfl
      have c1 : wr.cell? ⟨b, o + j * 3 + 1, none⟩ = _ := hc 1 _ rfl
      have c2 : wr.cell? ⟨b, o + j * 3 + 2, none⟩ = _ := hc 2 _ rfl
      have HX := Lib.hid hxj
      clear hc hxj
      cases hq : p x with
      | true =>
        have HQ := Lib.hid hq
        have hca := hcall.out _ hq
        clear hq hcall
        go_wp2_with fail
        refine hca.mono ?_
        rintro _ w1 ⟨rfl, hb1⟩
        clear hca
        go_wp2_with fail
        go_ret
        exact ⟨_, rfl, .inr ⟨j, hlt, rfl, by rw [← HX.out]; exact HQ.out, HF.out⟩, (H.below hb1).done⟩
      | false =>
        have HQ := Lib.hid hq
        have hca := hcall.out _ hq
        clear hq hcall
        go_wp2_with fail
        refine hca.mono ?_
        rintro _ w1 ⟨rfl, hb1⟩
        clear hca
        go_wp2_with fail
        go_roundw
        case rel =>
          refine ⟨j + 1, by go_num, by omega, (show Hid _ from fun i hi => ?_), H.below hb1⟩
          by_cases e : i = j
          · subst e; rw [← HX.out]; exact HQ.out
          · exact HF.out i (by omega)
        case measure => simp [intOf]; omega
    · go_wp2_with fail
      go_ret
      exact ⟨-1, rfl, .inl ⟨rfl, fun i hi => HF.out i (by omega)⟩, H.done⟩
theorem any_ofG {p : G3 → Bool} {xs : List G3} {r : Int} (h : (r = -1 ∧ ∀ i, i < xs.length → p xs[i]! = false) ∨ ∃ i : Nat, i < xs.length ∧ r = i ∧ p xs[i]! = true ∧ ∀ j, j < i → p xs[j]! = false) : decide (0 ≤ r) = xs.any p := by
  rcases h with ⟨rfl, h⟩ | ⟨i, hi, rfl, h, -⟩
  · symm
    rw [show decide ((0 : Int) ≤ -1) = false from rfl, List.any_eq_false]
    intro x hx
    obtain ⟨i, hi, rfl⟩ := List.getElem_of_mem hx
    have := h i hi
    rw [getElem!_pos xs i hi] at this
    simp [this]
  · symm
    rw [show decide ((0 : Int) ≤ (i : Int)) = true by simp, List.any_eq_true]
    exact ⟨xs[i]!, by rw [getElem!_pos xs i hi]; exact List.getElem_mem _, h⟩
theorem containsG (g : Nat) (eg : ∀ args w, (callFunc g args).run Try.prog w = .ok (.enter g args) w) (lb : Array Value) (p : G3 → Bool) {sa : Option Addr} (c : Nat) {xs : List G3} (hx : xs.length ≤ 100000) (w : World) (hl : Lies w w.heap.size sa 3 xs.length (fun j => gC xs[j]!)) (hp : AsksG g lb p w) :
    Calls Try.prog 17 #[.slice sa xs.length c, .func (.func g) #[] lb] w (Gives (.bool (xs.any p)) w) := by
  have hf := Lib.hid (findG g eg lb p c hx w hl hp)
  clear hl hp
  go_enter Try.func17, Try.ntmps17
  have H := HS.start NoD w
  go_wp2_with fail
  refine (hf.out).mono ?_
  rintro _ w1 ⟨r, rfl, hr, hb⟩
  replace H := H.below hb
  clear hb
  try clear C
  try simp only [World.size_alloc, List.nil_append, List.cons_append, List.append_assoc] at H
  have C := H.cells
  try simp only [cellsOf, apartOf, and_true] at C
  dsimp only
  go_wp2_with fail
  go_ret
  exact ⟨by rw [← any_ofG hr]; rfl, H.done⟩

end Go.Proofs.Ytdcieajdgmopkaa
