/- reload.known, whole, Valid: of what is valid. -/
import Derived.Test.YtheccfiidollpaaRlD
namespace Go.Proofs.Ytheccfiidollpaa
set_option linter.unusedSimpArgs false
set_option linter.unusedVariables false
open Go.RowKit
set_option maxRecDepth 100000
attribute [local irreducible] wpX wpF Calls

/-- What a search over a slice by a test hands back. -/
def FindPostWd (p : Sv → Bool) (xs : List Sv) (w : World) (e : Ending) (w' : World) : Prop :=
  ∃ r : Int, e = .returned (.int .i64 r) ∧ ((r = -1 ∧ ∀ i, i < xs.length → p xs[i]! = false) ∨ ∃ i : Nat, i < xs.length ∧ r = i ∧ p xs[i]! = true ∧ ∀ j, j < i → p xs[j]! = false) ∧ Below w.heap.size w w'
/-- The closure g with the captured addresses lb answers by p. -/
def AsksWd (g : Nat) (lb : Array Value) (p : Sv → Bool) (w : World) : Prop := ∀ W x, Below w.heap.size w W → Calls Try.prog g (#[Sv.v x] ++ lb) W (Gives (.bool (p x)) W)
set_option maxHeartbeats 2000000 in
theorem findWd (g : Nat) (eg : ∀ args w, (callFunc g args).run Try.prog w = .ok (.enter g args) w) (lb : Array Value) (p : Sv → Bool) {sa : Option Addr} (c : Nat) {xs : List Sv} (hx : xs.length ≤ 100000) (w : World) (hl : Lies w w.heap.size sa 1 xs.length (fun j => svC xs[j]!)) (hp : AsksWd g lb p w) :
    Calls Try.prog 40 #[.slice sa xs.length c, .func (.func g) #[] lb] w (FindPostWd p xs w) := by
  have HL := Lib.hid hl
  have HP := Lib.hid hp
  clear hl hp
  go_enter Try.func40, Try.ntmps40
  have H := HS.start NoD w
  go_wp2_with fail
  go_loopw [5, 8] (fun _ i wr => ∃ (j : Nat), i = .int .i64 j ∧ j ≤ xs.length ∧ Hid (∀ i, i < j → p xs[i]! = false) ∧ HS NoD w [] wr) (fun _ i _ => xs.length - (intOf i).toNat)
  case atStart => exact ⟨0, rfl, Nat.zero_le _, fun i hi => absurd hi (Nat.not_lt_zero _), H⟩
  case round =>
    clear H
    obtain ⟨j, rfl, hj, HF, H⟩ := hrel
    skip
    by_cases hlt : j < xs.length
    · obtain ⟨b, o, rfl, hb, hc⟩ := (H.lies HL.out).at hlt
      have hcall := Lib.hid (fun (b : Bool) (e : p xs[j]! = b) => by have := HP.out wr xs[j]! H.done; rw [e] at this; exact this)
      obtain ⟨x, hxj⟩ : ∃ x, x = xs[j]! := ⟨_, rfl⟩
      rw [← hxj] at hc hcall
      have c0 : wr.cell? ⟨b, o + j, none⟩ = some (.slice x.sa x.n x.c) := by have := hc 0 _ rfl; simpa using this
      have HX := Lib.hid hxj
      clear hc hxj
      cases hq : p x with
      | true =>
        have HQ := Lib.hid hq
        have hca := hcall.out _ hq
        clear hq hcall
        go_wp2_with fail
        refine hca.mono ?_
        rintro _ w1 ⟨rfl, hb1⟩
        clear hca
        go_wp2_with fail
        go_ret
        exact ⟨_, rfl, .inr ⟨j, hlt, rfl, by rw [← HX.out]; exact HQ.out, HF.out⟩, (H.below hb1).done⟩
      | false =>
        have HQ := Lib.hid hq
        have hca := hcall.out _ hq
        clear hq hcall
        go_wp2_with fail
        refine hca.mono ?_
        rintro _ w1 ⟨rfl, hb1⟩
        clear hca
        go_wp2_with fail
        go_roundw
        case rel =>
          refine ⟨j + 1, by go_num, by omega, (show Hid _ from fun i hi => ?_), H.below hb1⟩
          by_cases e : i = j
          · subst e; rw [← HX.out]; exact HQ.out
          · exact HF.out i (by omega)
        case measure => simp [intOf]; omega
    · go_wp2_with fail
      go_ret
      exact ⟨-1, rfl, .inl ⟨rfl, fun i hi => HF.out i (by omega)⟩, H.done⟩
theorem any_ofWd {p : Sv → Bool} {xs : List Sv} {r : Int} (h : (r = -1 ∧ ∀ i, i < xs.length → p xs[i]! = false) ∨ ∃ i : Nat, i < xs.length ∧ r = i ∧ p xs[i]! = true ∧ ∀ j, j < i → p xs[j]! = false) : decide (0 ≤ r) = xs.any p := by
  rcases h with ⟨rfl, h⟩ | ⟨i, hi, rfl, h, -⟩
  · symm
    rw [show decide ((0 : Int) ≤ -1) = false from rfl, List.any_eq_false]
    intro x hx
    obtain ⟨i, hi, rfl⟩ := List.getElem_of_mem hx
    have := h i hi
    rw [getElem!_pos xs i hi] at this
    simp [this]
  · symm
    rw [show decide ((0 : Int) ≤ (i : Int)) = true by simp, List.any_eq_true]
    exact ⟨xs[i]!, by rw [getElem!_pos xs i hi]; exact List.getElem_mem _, h⟩
theorem containsWd (g : Nat) (eg : ∀ args w, (callFunc g args).run Try.prog w = .ok (.enter g args) w) (lb : Array Value) (p : Sv → Bool) {sa : Option Addr} (c : Nat) {xs : List Sv} (hx : xs.length ≤ 100000) (w : World) (hl : Lies w w.heap.size sa 1 xs.length (fun j => svC xs[j]!)) (hp : AsksWd g lb p w) :
    Calls Try.prog 32 #[.slice sa xs.length c, .func (.func g) #[] lb] w (Gives (.bool (xs.any p)) w) := by
  have hf := Lib.hid (findWd g eg lb p c hx w hl hp)
  clear hl hp
  go_enter Try.func32, Try.ntmps32
  have H := HS.start NoD w
  go_wp2_with fail
  refine (hf.out).mono ?_
  rintro _ w1 ⟨r, rfl, hr, hb⟩
  replace H := H.below hb
  clear hb
  try clear C
  try simp only [World.size_alloc, List.nil_append, List.cons_append, List.append_assoc] at H
  have C := H.cells
  try simp only [cellsOf, cellsM, apartOf, apartM, and_true] at C
  dsimp only
  go_wp2_with fail
  go_ret
  exact ⟨by rw [← any_ofWd hr]; rfl, H.done⟩


theorem rknown_any (n : Int) (w : World) : Calls Try.prog 20 #[.int .i64 n] w (Gives (.bool (decide (1 ≤ n ∧ n ≤ 64))) w) := by
  by_cases h1 : 1 ≤ n
  · by_cases h2 : n ≤ 64
    all_goals
      go_enter Try.func20, Try.ntmps20
      have H := HS.start NoD w
      go_wp2_with fail
      go_ret
      exact ⟨by first | (simp [h1, h2]; done) | (simp; omega), H.done⟩
  · go_enter Try.func20, Try.ntmps20
    have H := HS.start NoD w
    go_wp2_with fail
    go_ret
    exact ⟨by first | (simp [h1]; done) | (simp; omega), H.done⟩
theorem whole1_any (x : Sv) (size : Int) (bI : Nat) (w : World) (hc : ∀ o, w.cell? ⟨bI, o, none⟩ = #[Value.int .i64 size][o]?) (hl : bI < w.heap.size) : Calls Try.prog 33 (#[Sv.v x] ++ #[.pointer (some ⟨bI, 0, none⟩)]) w (Gives (.bool (decide (¬ (x.n : Int) = size))) w) := by
  obtain ⟨xa, xn, xc⟩ := x
  show Calls Try.prog 33 #[.slice xa xn xc, .pointer (some ⟨bI, 0, none⟩)] w _
  have n1 : (bI = w.heap.size) = False := eq_false (by omega)
  have n2 : (w.heap.size = bI) = False := eq_false (by omega)
  by_cases h : (xn : Int) = size
  · subst h
    go_enter Try.func33, Try.ntmps33
    have H := HS.start NoD w
    go_wp2_with fail
    go_ret
    exact ⟨by simp, H.done⟩
  · have hb : ((xn : Int) != size) = true := bne_iff_ne.2 h
    go_enter Try.func33, Try.ntmps33
    have H := HS.start NoD w
    go_wp2_with fail
    go_ret
    exact ⟨by simp [h], H.done⟩
def GoodB (size : Nat) (b : Bm) : Prop := 1 ≤ b.id ∧ b.id ≤ 64 ∧ b.ws.length = 4 ∧ ∀ j, j < 4 → (b.ws[j]!).length = size
structure GoodS (size : Nat) (l : List Bm) : Prop where
  good : ∀ i, i < l.length → GoodB size l[i]!
  asc : ∀ i, i + 1 < l.length → (l[i]!).id < (l[i + 1]!).id
theorem GoodB.small {size : Nat} (hs : size ≤ 32) {b : Bm} (h : GoodB size b) : SmallB b := ⟨by have := h.2.2.1; omega, fun j hj => by rw [h.2.2.2 j (by have := h.2.2.1; omega)]; omega⟩
theorem GoodS.lt {size : Nat} {l : List Bm} (h : GoodS size l) : ∀ (d i : Nat), i + d < l.length → (l[i]!).id + d ≤ (l[i + d]!).id
  | 0, i, hi => by simp
  | d + 1, i, hi => by
    have h1 := h.lt d i (by omega)
    have h2 := h.asc (i + d) (by omega)
    rw [show i + (d + 1) = i + d + 1 by omega]
    omega
theorem GoodS.len {size : Nat} {l : List Bm} (h : GoodS size l) : l.length ≤ 64 := by
  by_cases h0 : l.length = 0
  · omega
  · have h1 := h.lt (l.length - 1) 0 (by omega)
    have h2 := (h.good 0 (by omega)).1
    have h3 := (h.good (0 + (l.length - 1)) (by omega)).2.1
    omega
theorem GoodS.small {size : Nat} (hs : size ≤ 32) {l : List Bm} (h : GoodS size l) : SmallS l := ⟨by have := h.len; omega, fun j hj => (h.good j hj).small hs⟩
set_option maxHeartbeats 4000000 in
theorem whole_any (size : Nat) (q : Bv) (b : Bm) (hg : GoodB size b) (w : World) (h : BlobAt w q b) : Calls Try.prog 21 #[.int .i64 size, vBv q] w (Gives (.bool true) w) := by
  obtain ⟨id, ⟨sa, n, c⟩⟩ := q
  obtain ⟨hid, vs, hvl, hn, hcap, hl, hb⟩ := h
  obtain ⟨bid, ws⟩ := b
  obtain ⟨-, -, hw4, hsz⟩ := hg
  dsimp only at hid hvl hn hcap hl hb hw4 hsz
  subst hid hn
  have hv4 : vs.length = 4 := by omega
  have HNO := Lib.hid (show vs.any (fun x => decide (¬ (x.n : Int) = size)) = false from List.any_eq_false.2 fun x hx => by
    obtain ⟨i, hi, rfl⟩ := List.getElem_of_mem hx
    have h1 := (hb i (by omega)).len
    rw [getElem!_pos vs i hi, hsz i (by omega)] at h1
    simp [h1])
  have HL := Lib.hid hl
  clear hl hb hcap hsz hw4 hvl
  show Calls Try.prog 21 #[.int .i64 size, .agg #[.int .i64 id, .slice sa vs.length c]] w _
  have HV4 := Lib.hid hv4
  rw [hv4]
  go_enter Try.func21, Try.ntmps21
  have H := HS.start NoD w
  go_upto_region 1 with fail
  generalize hwb : (w.alloc _).alloc _ = w1
  replace H := HS.eqW hwb H.alloc.alloc
  try simp only [World.size_alloc, List.nil_append, List.cons_append, List.append_assoc] at H
  clear hwb
  generalize w.heap.size + 1 = bB at H ⊢
  generalize w.heap.size = bS at H ⊢
  try clear C
  have C := H.cells
  try simp only [cellsOf, cellsM, apartOf, apartM, and_true] at C
  have hcon := containsWd 33 (fun _ _ => rfl) #[.pointer (some ⟨bS, 0, none⟩)] (fun x => decide (¬ (x.n : Int) = size)) c (by omega) w1 (H.liesUp HL.out) (fun W x hb => whole1_any x size bS W ((Blk.below (H.at 0 rfl) hb).cell) (Blk.below (H.at 0 rfl) hb).lt)
  rw [HNO.out, HV4.out] at hcon
  clear hv4
  go_wp2_with fail
  refine (hcon).mono ?_
  rintro _ w2 ⟨rfl, hb⟩
  replace H := H.below hb
  clear hb
  try clear C
  try simp only [World.size_alloc, List.nil_append, List.cons_append, List.append_assoc] at H
  try clear w1
  have C := H.cells
  try simp only [cellsOf, cellsM, apartOf, apartM, and_true] at C
  dsimp only
  go_wp2_with fail
  go_ret
  exact ⟨rfl, H.done⟩
end Go.Proofs.Ytheccfiidollpaa
