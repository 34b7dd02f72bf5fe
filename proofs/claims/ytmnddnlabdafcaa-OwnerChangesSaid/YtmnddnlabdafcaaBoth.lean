/- Both packages of programs answer the same: one pair of contracts a function. -/
import Derived.Test.YtmnddnlabdafcaaO11
import Derived.Test.YtmnddnlabdafcaaOEnd
import Derived.Test.YtmnddnlabdafcaaOP7
import Derived.Test.YtmnddnlabdafcaaSm29
namespace Go.Proofs.Ytmnddnlabdafcaa
set_option linter.unusedSimpArgs false
set_option linter.unusedVariables false
open Go.RowKit
set_option maxRecDepth 100000
attribute [local go_sem] lt_more ne_more ne_more'
attribute [local irreducible] wpX wpF Calls

theorem small_nil : SmallP [] := ⟨Nat.zero_le _, fun p hp => absurd hp List.not_mem_nil⟩
theorem map_small {ps : List Pr} (hg : GoodP 64 ps) (id n f : Int) : SmallP (mapP ps id n f).2 := by
  by_cases h : (mapP ps id n f).1 = 0
  · have hf : f < 64 := by
      unfold mapP at h
      split at h
      · cases h
      · split at h
        · cases h
        · omega
    exact (hg.map hf (Prod.ext h rfl)).1.smallP
  · have : (mapP ps id n f).1 = 0 ∨ (mapP ps id n f).2 = [] := by
      unfold mapP
      repeat' split
      all_goals first
        | exact .inr rfl
        | exact .inl rfl
    rw [this.resolve_left h]
    exact small_nil
theorem fork_small {ps : List Pr} (hg : GoodP 64 ps) (id o : Int) : SmallP (forkP ps id o).2 := by
  by_cases h : (forkP ps id o).1 = 0
  · exact (hg.fork (Prod.ext h rfl)).1.smallP
  · have : (forkP ps id o).1 = 0 ∨ (forkP ps id o).2 = [] := by
      unfold forkP
      repeat' split
      all_goals first
        | exact .inr rfl
        | exact .inl rfl
    rw [this.resolve_left h]
    exact small_nil
theorem drop_small {ps : List Pr} (hg : GoodP 64 ps) (id n : Int) : SmallP (dropP ps id n).2.1 := by
  rcases findP_cases ps id n with ⟨i, k, hf, hi, hk⟩ | ⟨e, hf, he⟩
  · exact (hg.drop (Prod.ext (by rw [dropP_of hf]) rfl)).1.smallP
  · rw [dropP_err hf he]; exact small_nil
theorem tell_small {ps : List Pr} (hg : GoodP 64 ps) (id n : Int) : SmallP (tellP ps id n).2.1 := by
  rcases findP_cases ps id n with ⟨i, k, hf, hi, hk⟩ | ⟨e, hf, he⟩
  · exact (hg.tell (Prod.ext (by rw [tellP_of hf]) rfl)).1.smallP
  · rw [tellP_err hf he]; exact small_nil
theorem own_small {ps : List Pr} (hg : GoodP 64 ps) (id n f : Int) : SmallP (ownP ps id n f).2.1 := by
  rcases findP_cases ps id n with ⟨i, k, hf, hi, hk⟩ | ⟨e, hf, he⟩
  · by_cases h1 : f < 0 ∨ 64 ≤ f
    · rw [ownP_of hf, if_pos h1]; exact small_nil
    · by_cases h2 : usedB ps f = true
      · rw [ownP_of hf, if_neg h1, if_pos h2]; exact small_nil
      · exact (hg.own (show f < 64 by omega) (Prod.ext (by rw [ownP_of hf, if_neg h1, if_neg h2]) rfl)).1.smallP
  · rw [ownP_err hf he]; exact small_nil
theorem repl_small {ps : List Pr} (hg : GoodP 64 ps) (a b : Int) : SmallP (replP ps a b).2 := by
  unfold replP
  by_cases h : a < 0 ∨ 64 ≤ a ∨ b < 0 ∨ 64 ≤ b
  · rw [if_pos h]; exact small_nil
  · rw [if_neg h]
    by_cases h2 : a ≠ b ∧ usedB ps b = true
    · rw [if_pos h2]; exact small_nil
    · rw [if_neg h2]
      exact (hg.repl (show b < 64 by omega) (by unfold replP; rw [if_neg h, if_neg h2])).1.smallP
theorem end_small {ps : List Pr} (hg : GoodP 64 ps) (id : Int) : SmallP (endP ps id).2.1 ∧ (endP ps id).2.2.length ≤ 64 := by
  cases hi : ps.findIdx? (live id) with
  | none => unfold endP; rw [hi]; exact ⟨small_nil, Nat.zero_le _⟩
  | some i =>
    have e : endP ps id = (0, (endP ps id).2.1, (endP ps id).2.2) := by unfold endP; rw [hi]
    refine ⟨(hg.ends e).1.smallP, ?_⟩
    unfold endP
    rw [hi]
    dsimp only
    refine Nat.le_trans (List.length_filter_le _ _) ?_
    simp
def TwoP (e : Int) : Value → Value := fun v => .tuple #[v, .int .i64 e]
def Gives3 (e : Int) (out : List Pr) (u : Int) (w : World) (x : Ending) (w' : World) : Prop :=
  ∃ v qs, x = .returned (.tuple #[v, .int .i64 u, .int .i64 e]) ∧ qs.map (·.p) = out ∧ HS NoD w [.many (PsR v qs)] w'
def GivesE4 (e : Int) (out : List Pr) (l : List Int) (w : World) (x : Ending) (w' : World) : Prop :=
  ∃ v qs sa c, x = .returned (.tuple #[v, .slice sa l.length c, .int .i64 e]) ∧ qs.map (·.p) = out ∧ HS NoD w [Item.many (PsR v qs), .row (.slice sa l.length c) 3 1 l.length (l.flatMap iC)] w'
section
variable {ps : List Pr} (hg : GoodP 64 ps)
include hg
theorem both_map (id n f : Int) : ∃ e out, SmallP out ∧ (∀ v w, Ps w w.heap.size v ps → Calls Try.prog 32 #[v, .int .i64 id, .int .i64 n, .int .i64 f] w (GivesP (fun v => .tuple #[v, .int .i64 e]) out w)) ∧ (∀ v w, Ps w w.heap.size v ps → Calls Try.prog 33 #[v, .int .i64 id, .int .i64 n, .int .i64 f] w (GivesP (fun v => .tuple #[v, .int .i64 e]) out w)) :=
  ⟨_, _, map_small hg id n f, fun v w h => omap_any id n f hg w h, fun v w h => rmap_any id n f hg.smallP w h⟩
theorem both_fork (id o : Int) : ∃ e out, SmallP out ∧ (∀ v w, Ps w w.heap.size v ps → Calls Try.prog 18 #[v, .int .i64 id, .int .i64 o] w (GivesP (fun v => .tuple #[v, .int .i64 e]) out w)) ∧ (∀ v w, Ps w w.heap.size v ps → Calls Try.prog 35 #[v, .int .i64 id, .int .i64 o] w (GivesP (fun v => .tuple #[v, .int .i64 e]) out w)) :=
  ⟨_, _, fork_small hg id o, fun v w h => ofork_any id o hg w h, fun v w h => rfork_any id o hg.smallP w h⟩
theorem both_repl (a b : Int) : ∃ e out, SmallP out ∧ (∀ v w, Ps w w.heap.size v ps → Calls Try.prog 21 #[v, .int .i64 a, .int .i64 b] w (GivesP (fun v => .tuple #[v, .int .i64 e]) out w)) ∧ (∀ v w, Ps w w.heap.size v ps → Calls Try.prog 40 #[v, .int .i64 a, .int .i64 b] w (GivesP (fun v => .tuple #[v, .int .i64 e]) out w)) :=
  ⟨_, _, repl_small hg a b, fun v w h => orepl_any a b hg.smallP w h, fun v w h => rrepl_any a b hg.smallP w h⟩
theorem both_drop (id n : Int) : ∃ e out u, SmallP out ∧ (∀ v w, Ps w w.heap.size v ps → Calls Try.prog 25 #[v, .int .i64 id, .int .i64 n] w (Gives3 e out u w)) ∧ (∀ v w, Ps w w.heap.size v ps → Calls Try.prog 36 #[v, .int .i64 id, .int .i64 n] w (Gives3 e out u w)) :=
  ⟨_, _, _, drop_small hg id n, fun v w h => odrop_any id n hg w h, fun v w h => rdrop_any id n hg w h⟩
theorem both_tell (id n : Int) : ∃ e out u, SmallP out ∧ (∀ v w, Ps w w.heap.size v ps → Calls Try.prog 38 #[v, .int .i64 id, .int .i64 n] w (Gives3 e out u w)) ∧ (∀ v w, Ps w w.heap.size v ps → Calls Try.prog 39 #[v, .int .i64 id, .int .i64 n] w (Gives3 e out u w)) :=
  ⟨_, _, _, tell_small hg id n, fun v w h => otell_any id n hg w h, fun v w h => rtell_any id n hg w h⟩
theorem both_own (id n f : Int) : ∃ e out u, SmallP out ∧ (∀ v w, Ps w w.heap.size v ps → Calls Try.prog 20 #[v, .int .i64 id, .int .i64 n, .int .i64 f] w (Gives3 e out u w)) ∧ (∀ v w, Ps w w.heap.size v ps → Calls Try.prog 37 #[v, .int .i64 id, .int .i64 n, .int .i64 f] w (Gives3 e out u w)) :=
  ⟨_, _, _, own_small hg id n f, fun v w h => oown_any id n f hg w h, fun v w h => rown_any id n f hg w h⟩
theorem both_end (id : Int) : ∃ e out l, SmallP out ∧ l.length ≤ 64 ∧ (∀ v w, Ps w w.heap.size v ps → Calls Try.prog 27 #[v, .int .i64 id] w (GivesE4 e out l w)) ∧ (∀ v w, Ps w w.heap.size v ps → Calls Try.prog 41 #[v, .int .i64 id] w (GivesE4 e out l w)) :=
  ⟨_, _, _, (end_small hg id).1, (end_small hg id).2, fun v w h => oend_any id (Int.le_refl _) hg w h, fun v w h => rend_any id hg.smallP w h⟩
theorem both_find (id n : Int) : ∃ a b s e, (∀ v w, Ps w w.heap.size v ps → Calls Try.prog 19 #[v, .int .i64 id, .int .i64 n] w (Gives (.tuple #[.agg #[.int .i64 a, .int .i64 b, .bool s], .int .i64 e]) w)) ∧ (∀ v w, Ps w w.heap.size v ps → Calls Try.prog 29 #[v, .int .i64 id, .int .i64 n] w (Gives (.tuple #[.agg #[.int .i64 a, .int .i64 b, .bool s], .int .i64 e]) w)) :=
  ⟨_, _, _, _, fun v w h => oFind_any id n hg w h, fun v w h => rFind_any id n hg.smallP w h⟩
end
theorem uses_of {xs : List (Int × Int)} (hx : xs.length ≤ 1000000) (c d : Nat) {sa sb : Option Addr} (w : World) (hl : Lies w w.heap.size sa 2 xs.length (fun j => uC xs[j]!)) (hm : Lies w w.heap.size sb 2 xs.length (fun j => uC xs[j]!)) :
    Calls Try.prog 30 #[.slice sa xs.length c, .slice sb xs.length d] w (Gives (.bool true) w) := by
  have HL := Lib.hid hl
  have HM := Lib.hid hm
  clear hl hm
  go_enter Try.func30, Try.ntmps30
  have H := HS.start NoD w
  go_wp2_with fail
  go_loopw [14] (fun cc wr => ∃ (j : Nat), cc = .int .i64 j ∧ j ≤ xs.length ∧ HS NoD w [] wr) (fun cc _ => xs.length - (intOf cc).toNat)
  case atStart => exact ⟨0, rfl, Nat.zero_le _, H⟩
  case round =>
    clear H
    obtain ⟨j, rfl, hj, H⟩ := hrel
    skip
    by_cases hlt : j < xs.length
    · obtain ⟨b, o, rfl, hb, hc⟩ := (H.lies HL.out).at hlt
      obtain ⟨b', o', rfl, hb', hd⟩ := (H.lies HM.out).at hlt
      obtain ⟨x, hxj⟩ : ∃ x, x = xs[j]! := ⟨_, rfl⟩
      rw [← hxj] at hc hd
      obtain ⟨t0, t1⟩ := x
      have c0 : wr.cell? ⟨b, o + j * 2, none⟩ = some (.int .i64 t0) := hc 0 _ rfl
      have c1 : wr.cell? ⟨b, o + j * 2 + 1, none⟩ = some (.int .i64 t1) := hc 1 _ rfl
      clear hxj
      have hq := fun w => (show (binOp .neq 61 (.agg #[.int .i64 t0, .int .i64 t1]) (.agg #[.int .i64 t0, .int .i64 t1])).run Try.prog w = .ok (.bool false) w by go_simp)
      have e0 : wr.cell? ⟨b', o' + j * 2, none⟩ = some (.int .i64 t0) := hd 0 _ rfl
      have e1 : wr.cell? ⟨b', o' + j * 2 + 1, none⟩ = some (.int .i64 t1) := hd 1 _ rfl
      have hlb : b < wr.heap.size := Nat.lt_of_lt_of_le hb H.size
      have hlb' : b' < wr.heap.size := Nat.lt_of_lt_of_le hb' H.size
      have hnb : (wr.heap.size = b') = False := eq_false (by omega)
      have hnb' : (b' = wr.heap.size) = False := eq_false (by omega)
      clear hc hd
      go_upto_region 6 with fail
      go_region
      go_wp2_with fail
      go_roundw
      case rel => exact ⟨j + 1, by go_num, by omega, H.alloc.drew.less (by repeat (first | exact .slnil | refine .cons_cons _ ?_ | refine .cons _ ?_))⟩
      case measure => simp [intOf]; omega
    · go_wp2_with fail
      go_ret
      exact ⟨rfl, H.done⟩
theorem ints_of {xs : List Int} (hx : xs.length ≤ 1000000) (c d : Nat) {sa sb : Option Addr} (w : World) (hl : Lies w w.heap.size sa 1 xs.length (fun j => iC xs[j]!)) (hm : Lies w w.heap.size sb 1 xs.length (fun j => iC xs[j]!)) :
    Calls Try.prog 42 #[.slice sa xs.length c, .slice sb xs.length d] w (Gives (.bool true) w) := by
  have HL := Lib.hid hl
  have HM := Lib.hid hm
  clear hl hm
  go_enter Try.func42, Try.ntmps42
  have H := HS.start NoD w
  go_wp2_with fail
  go_loopw [14] (fun cc wr => ∃ (j : Nat), cc = .int .i64 j ∧ j ≤ xs.length ∧ HS NoD w [] wr) (fun cc _ => xs.length - (intOf cc).toNat)
  case atStart => exact ⟨0, rfl, Nat.zero_le _, H⟩
  case round =>
    clear H
    obtain ⟨j, rfl, hj, H⟩ := hrel
    skip
    by_cases hlt : j < xs.length
    · obtain ⟨b, o, rfl, hb, hc⟩ := (H.lies HL.out).at hlt
      obtain ⟨b', o', rfl, hb', hd⟩ := (H.lies HM.out).at hlt
      have c0 : wr.cell? ⟨b, o + j * 1, none⟩ = some (.int .i64 xs[j]!) := hc 0 _ rfl
      have e0 : wr.cell? ⟨b', o' + j * 1, none⟩ = some (.int .i64 xs[j]!) := hd 0 _ rfl
      rw [Nat.mul_one] at c0 e0
      generalize xs[j]! = y at c0 e0
      clear hc hd
      go_wp2_with fail
      go_roundw
      case rel => exact ⟨j + 1, by go_num, by omega, H⟩
      case measure => simp [intOf]; omega
    · go_wp2_with fail
      go_ret
      exact ⟨rfl, H.done⟩
end Go.Proofs.Ytmnddnlabdafcaa
