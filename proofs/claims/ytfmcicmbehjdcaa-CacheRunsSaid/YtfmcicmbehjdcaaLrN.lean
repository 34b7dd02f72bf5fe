/- cache.set, find; the tests of Put. -/
import Derived.Test.YtfmcicmbehjdcaaLrE
import Derived.Test.YtfmcicmbehjdcaaLrI
namespace Go.Proofs.Ytfmcicmbehjdcaa
set_option linter.unusedSimpArgs false
set_option linter.unusedVariables false
open Go.RowKit
set_option maxRecDepth 100000
attribute [local irreducible] wpX wpF Calls

/-- What a search over a slice by a test hands back. -/
def FindPostSl (p : Sw → Bool) (xs : List Sw) (w : World) (e : Ending) (w' : World) : Prop :=
  ∃ r : Int, e = .returned (.int .i64 r) ∧ ((r = -1 ∧ ∀ i, i < xs.length → p xs[i]! = false) ∨ ∃ i : Nat, i < xs.length ∧ r = i ∧ p xs[i]! = true ∧ ∀ j, j < i → p xs[j]! = false) ∧ Below w.heap.size w w'
/-- The closure g with the captured addresses lb answers by p. -/
def AsksSl (g : Nat) (lb : Array Value) (p : Sw → Bool) (w : World) : Prop := ∀ W x, Below w.heap.size w W → Calls Try.prog g (#[.agg (swC x).toArray] ++ lb) W (Gives (.bool (p x)) W)
set_option maxHeartbeats 2000000 in
theorem findSl (g : Nat) (eg : ∀ args w, (callFunc g args).run Try.prog w = .ok (.enter g args) w) (lb : Array Value) (p : Sw → Bool) {sa : Option Addr} (c : Nat) {xs : List Sw} (hx : xs.length ≤ 100000) (w : World) (hl : Lies w w.heap.size sa 6 xs.length (fun j => swC xs[j]!)) (hp : AsksSl g lb p w) :
    Calls Try.prog 45 #[.slice sa xs.length c, .func (.func g) #[] lb] w (FindPostSl p xs w) := by
  have HL := Lib.hid hl
  have HP := Lib.hid hp
  clear hl hp
  go_enter Try.func45, Try.ntmps45
  have H := HS.start NoD w
  go_wp2_with fail
  go_loopw [5, 8] (fun _ i wr => ∃ (j : Nat), i = .int .i64 j ∧ j ≤ xs.length ∧ Hid (∀ i, i < j → p xs[i]! = false) ∧ HS NoD w [] wr) (fun _ i _ => xs.length - (intOf i).toNat)
  case atStart => exact ⟨0, rfl, Nat.zero_le _, fun i hi => absurd hi (Nat.not_lt_zero _), H⟩
  case round =>
    clear H
    obtain ⟨j, rfl, hj, HF, H⟩ := hrel
    skip
    by_cases hlt : j < xs.length
    · obtain ⟨b, o, rfl, hb, hc⟩ := (H.lies HL.out).at hlt
      have hcall := Lib.hid (fun (b : Bool) (e : p xs[j]! = b) => by have := HP.out wr xs[j]! H.done; rw [e] at this; exact this)
      obtain ⟨x, hxj⟩ : ∃ x, x = xs[j]! := ⟨_, rfl⟩
      rw [← hxj] at hc hcall
      have c0 : wr.cell? ⟨b, o + j * 6, none⟩ = _ := hc 0 _ rfl
      have c1 : wr.cell? ⟨b, o + j * 6 + 1, none⟩ = _ := hc 1 _ rfl
      have c2 : wr.cell? ⟨b, o + j * 6 + 2, none⟩ = _ := hc 2 _ rfl
      have c3 : wr.cell? ⟨b, o + j * 6 + 3, none⟩ = _ := hc 3 _ rfl
      have c4 : wr.cell? ⟨b, o + j * 6 + 4, none⟩ = _ := hc 4 _ rfl
      have c5 : wr.cell? ⟨b, o + j * 6 + 5, none⟩ = _ := hc 5 _ rfl
      have HX := Lib.hid hxj
      clear hc hxj
      cases hq : p x with
      | true =>
        have HQ := Lib.hid hq
        have hca := hcall.out _ hq
        clear hq hcall
        go_wp2_with fail
        refine hca.mono ?_
        rintro _ w1 ⟨rfl, hb1⟩
        clear hca
        go_wp2_with fail
        go_ret
        exact ⟨_, rfl, .inr ⟨j, hlt, rfl, by rw [← HX.out]; exact HQ.out, HF.out⟩, (H.below hb1).done⟩
      | false =>
        have HQ := Lib.hid hq
        have hca := hcall.out _ hq
        clear hq hcall
        go_wp2_with fail
        refine hca.mono ?_
        rintro _ w1 ⟨rfl, hb1⟩
        clear hca
        go_wp2_with fail
        go_roundw
        case rel =>
          refine ⟨j + 1, by go_num, by omega, (show Hid _ from fun i hi => ?_), H.below hb1⟩
          by_cases e : i = j
          · subst e; rw [← HX.out]; exact HQ.out
          · exact HF.out i (by omega)
        case measure => simp [intOf]; omega
    · go_wp2_with fail
      go_ret
      exact ⟨-1, rfl, .inl ⟨rfl, fun i hi => HF.out i (by omega)⟩, H.done⟩

theorem find1_any (x : Sw) (a : Int) (bI : Nat) (w : World) (hc : ∀ o, w.cell? ⟨bI, o, none⟩ = #[Value.int .i64 a][o]?) (hl : bI < w.heap.size) : Calls Try.prog 56 (#[.agg (swC x).toArray] ++ #[.pointer (some ⟨bI, 0, none⟩)]) w (Gives (.bool (x.s.u && decide (x.s.ln.ad = a))) w) := by
  obtain ⟨⟨u, age, ad, bs, d, p⟩, ⟨sa, sn, sc⟩⟩ := x
  show Calls Try.prog 56 #[.agg #[.bool u, .int .i64 age, .int .i64 ad, .slice sa sn sc, .bool d, .bool p], .pointer (some ⟨bI, 0, none⟩)] w _
  have n1 : (bI = w.heap.size) = False := eq_false (by omega)
  have n2 : (w.heap.size = bI) = False := eq_false (by omega)
  cases u
  case false =>
    go_enter Try.func56, Try.ntmps56
    have H := HS.start NoD w
    go_wp2_with fail
    go_ret
    exact ⟨by simp, H.skipAlloc.done⟩
  case true =>
    by_cases h : ad = a
    · subst h
      go_enter Try.func56, Try.ntmps56
      have H := HS.start NoD w
      go_wp2_with fail
      go_ret
      exact ⟨by simp, H.skipAlloc.done⟩
    · have hb : (ad == a) = false := beq_eq_false_iff_ne.2 h
      go_enter Try.func56, Try.ntmps56
      have H := HS.start NoD w
      go_wp2_with fail
      go_ret
      exact ⟨by simp [h], H.skipAlloc.done⟩
theorem put1_any (x : Sw) (w : World) : Calls Try.prog 46 (#[.agg (swC x).toArray] ++ #[]) w (Gives (.bool (!x.s.u)) w) := by
  obtain ⟨⟨u, age, ad, bs, d, p⟩, ⟨sa, sn, sc⟩⟩ := x
  show Calls Try.prog 46 #[.agg #[.bool u, .int .i64 age, .int .i64 ad, .slice sa sn sc, .bool d, .bool p]] w _
  go_enter Try.func46, Try.ntmps46
  have H := HS.start NoD w
  go_wp2_with fail
  go_ret
  exact ⟨rfl, H.skipAlloc.done⟩
theorem put2_any (x : Sw) (sb : Option Addr) (n m : Nat) (hn : 1 ≤ n ∧ n ≤ 1000) (bI : Nat) (w : World) (hc : ∀ o, w.cell? ⟨bI, o, none⟩ = #[Value.slice sb n m][o]?) (hl : bI < w.heap.size) : Calls Try.prog 47 (#[.agg (swC x).toArray] ++ #[.pointer (some ⟨bI, 0, none⟩)]) w (Gives (.bool (decide (x.s.age = (n : Int) - 1))) w) := by
  obtain ⟨⟨u, age, ad, bs, d, p⟩, ⟨sa, sn, sc⟩⟩ := x
  show Calls Try.prog 47 #[.agg #[.bool u, .int .i64 age, .int .i64 ad, .slice sa sn sc, .bool d, .bool p], .pointer (some ⟨bI, 0, none⟩)] w _
  have n1 : (bI = w.heap.size) = False := eq_false (by omega)
  have n2 : (w.heap.size = bI) = False := eq_false (by omega)
  by_cases h : age = (n : Int) - 1
  · have hb : (age == (n : Int) - 1) = true := beq_iff_eq.2 h
    go_enter Try.func47, Try.ntmps47
    have H := HS.start NoD w
    go_wp2_with fail
    go_ret
    exact ⟨by simp [h], H.skipAlloc.done⟩
  · have hb : (age == (n : Int) - 1) = false := beq_eq_false_iff_ne.2 h
    go_enter Try.func47, Try.ntmps47
    have H := HS.start NoD w
    go_wp2_with fail
    go_ret
    exact ⟨by simp [h], H.skipAlloc.done⟩
def isAd (a : Int) (q : Sw) : Bool := q.s.u && decide (q.s.ln.ad = a)
theorem cfind_any {sa : Option Addr} (c : Nat) (xs : List Sw) (hx : xs.length ≤ 1000) (a : Int) (w : World) (hl : Lies w w.heap.size sa 6 xs.length (fun j => swC xs[j]!)) : Calls Try.prog 40 #[.slice sa xs.length c, .int .i64 a] w (FindPostSl (isAd a) xs w) := by
  have HL := Lib.hid hl
  clear hl
  go_enter Try.func40, Try.ntmps40
  have H := HS.start NoD w
  go_wp2_with fail
  generalize hwb : w.alloc _ = w1
  replace H := HS.eqW hwb H.alloc
  try simp only [World.size_alloc, List.nil_append, List.cons_append, List.append_assoc] at H
  clear hwb
  generalize w.heap.size = bI at H ⊢
  try clear C
  have C := H.cells
  try simp only [cellsOf, cellsM, apartOf, apartM, and_true] at C
  have hcon := findSl 56 (fun _ _ => rfl) #[.pointer (some ⟨bI, 0, none⟩)] (isAd a) c (by omega) w1 (H.liesUp HL.out) (fun W x hb => find1_any x a bI W ((Blk.below (H.at 0 rfl) hb).cell) (Blk.below (H.at 0 rfl) hb).lt)
  refine (hcon).mono ?_
  rintro _ w2 ⟨r, rfl, hr, hb⟩
  replace H := H.below hb
  clear hb
  try clear C
  try simp only [World.size_alloc, List.nil_append, List.cons_append, List.append_assoc] at H
  try clear w1
  have C := H.cells
  try simp only [cellsOf, cellsM, apartOf, apartM, and_true] at C
  dsimp only
  have HR := Lib.hid hr
  clear hr hcon
  go_wp2_with fail
  go_ret
  exact ⟨r, rfl, HR.out, H.done⟩
set_option maxHeartbeats 4000000 in
theorem cset_neg {S W : Nat} {size : Int} (x : Sv) (qs : List Sw) (hg : GoodC S W size (qs.map Sw.s)) (hx : x.n = qs.length) (hcap : CapOk x) (hln : ∀ j, j < qs.length → (qs[j]!).x.n = (qs[j]!).s.ln.bs.length) (a : Int) (ha : a < 0) (w : World) (hl : Lies w w.heap.size x.sa 6 qs.length (fun j => swC qs[j]!)) :
    Calls Try.prog 39 #[caV S W size x, .int .i64 a] w (Gives (.slice none 0 0) w) := by
  have hlen : qs.length ≤ 1000000 := by
    have h1 := hg.len
    have h2 := Nat.mul_le_mul hg.S8 hg.W4
    rw [List.length_map] at h1
    omega
  have HV := Lib.hid (fun w hl => by
    have := cvalid_any S W size x qs hx hcap hlen hln w hl
    rw [hg.valid] at this
    exact this)
  have HL := Lib.hid hl
  clear hl hg hcap hln hx hlen
  obtain ⟨xa, xn, xc⟩ := x
  have HV2 := Lib.hid (fun w hl => (show Calls Try.prog 17 #[.agg #[.int .i64 S, .int .i64 W, .int .i64 size, .slice xa xn xc]] w (Gives (.bool true) w) from HV.out w hl))
  clear HV
  show Calls Try.prog 39 #[.agg #[.int .i64 S, .int .i64 W, .int .i64 size, .slice xa xn xc], .int .i64 a] w _
  go_enter Try.func39, Try.ntmps39
  have H := HS.start NoD w
  go_wp2_with fail
  generalize hwb : w.alloc _ = w1
  replace H := HS.eqW hwb H.alloc
  try simp only [World.size_alloc, List.nil_append, List.cons_append, List.append_assoc] at H
  clear hwb
  generalize w.heap.size = bX at H ⊢
  try clear C
  have C := H.cells
  try simp only [cellsOf, cellsM, apartOf, apartM, and_true] at C
  go_wp2_with fail
  refine (HV2.out _ (H.liesUp HL.out)).mono ?_
  rintro _ w2 ⟨rfl, hb⟩
  replace H := H.below hb
  clear hb
  try clear C
  try simp only [World.size_alloc, List.nil_append, List.cons_append, List.append_assoc] at H
  try clear w1
  have C := H.cells
  try simp only [cellsOf, cellsM, apartOf, apartM, and_true] at C
  dsimp only
  go_wp2_with fail
  go_ret
  exact ⟨rfl, H.done⟩
set_option maxHeartbeats 4000000 in
theorem cset_pos {S W : Nat} {size : Int} {b o n c : Nat} (qs : List Sw) (hg : GoodC S W size (qs.map Sw.s)) (hn : n = qs.length) (hcap : qs.length ≤ c) (hln : ∀ j, j < qs.length → (qs[j]!).x.n = (qs[j]!).s.ln.bs.length) (a : Int) (s : Nat) (ha : 0 ≤ a) (has : a % S = s) (w : World) (hl : Lies w w.heap.size (some ⟨b, o, none⟩) 6 qs.length (fun j => swC qs[j]!)) :
    Calls Try.prog 39 #[caV S W size ⟨some ⟨b, o, none⟩, n, c⟩, .int .i64 a] w (Gives (.slice (some ⟨b, o + s * W * 6, none⟩) W (c - s * W)) w) := by
  subst hn
  have h8 := hg.S8
  have h4 := hg.W4
  have hS1 := hg.S1
  have hW1 := hg.W1
  have hs : s < S := by have := Int.emod_lt_of_pos a (show (0 : Int) < S by omega); omega
  have hfit := hg.fits hs
  rw [List.length_map] at hfit
  have hlen : qs.length ≤ 32 := by
    have h1 := hg.len
    have h2 := Nat.mul_le_mul h8 h4
    rw [List.length_map] at h1
    omega
  have HV := Lib.hid (fun w hl => by
    have := cvalid_any S W size ⟨some ⟨b, o, none⟩, qs.length, c⟩ qs rfl ⟨hcap, fun e => nomatch e⟩ (by omega) hln w hl
    rw [hg.valid] at this
    exact this)
  have HL := Lib.hid hl
  have HV2 := Lib.hid (fun w hl => (show Calls Try.prog 17 #[.agg #[.int .i64 S, .int .i64 W, .int .i64 size, .slice (some ⟨b, o, none⟩) qs.length c]] w (Gives (.bool true) w) from HV.out w hl))
  obtain ⟨lo, hlo⟩ : ∃ lo, lo = s * W := ⟨_, rfl⟩
  have hlw : (s : Int) * W = lo := by rw [hlo]; push_cast; rfl
  have hhw : ((s : Int) + 1) * W = ((lo + W : Nat) : Int) := by rw [Int.add_mul, Int.one_mul, hlw]; push_cast; rfl
  rw [← hlo] at hfit ⊢
  obtain ⟨hi, hie⟩ : ∃ h, h = lo + W := ⟨_, rfl⟩
  rw [← hie] at hhw
  have hS0 : ((S : Int) == 0) = false := beq_eq_false_iff_ne.2 (by omega)
  have hS0' : ¬ S = 0 := by omega
  have ha0 : ¬ a < 0 := by omega
  have hhl : hi - lo = W := by omega
  have hle : lo ≤ hi := by omega
  have hhc : hi ≤ c := by omega
  have hb1 : (-9223372036854775808 : Int) ≤ lo ∧ (lo : Int) ≤ 9223372036854775807 := by omega
  have hb2 : (-9223372036854775808 : Int) ≤ hi ∧ (hi : Int) ≤ 9223372036854775807 := by omega
  have hw1' : wrap64 ((s : Int) * W) = lo := by rw [hlw]; exact IntWalk.wrap64_in _ hb1
  have hw2' : wrap64 (((s : Int) + 1) * W) = hi := by rw [hhw]; exact IntWalk.wrap64_in _ hb2
  clear hb1 hb2
  clear hl hg hln hlen HV hlw hhw hlo hie
  show Calls Try.prog 39 #[.agg #[.int .i64 S, .int .i64 W, .int .i64 size, .slice (some ⟨b, o, none⟩) qs.length c], .int .i64 a] w _
  go_enter Try.func39, Try.ntmps39
  have H := HS.start NoD w
  go_wp2_with fail
  generalize hwb : w.alloc _ = w1
  replace H := HS.eqW hwb H.alloc
  try simp only [World.size_alloc, List.nil_append, List.cons_append, List.append_assoc] at H
  clear hwb
  generalize w.heap.size = bX at H ⊢
  try clear C
  have C := H.cells
  try simp only [cellsOf, cellsM, apartOf, apartM, and_true] at C
  have HAS := Lib.hid has
  clear has
  go_wp2_with fail
  refine (HV2.out _ (H.liesUp HL.out)).mono ?_
  rintro _ w2 ⟨rfl, hb⟩
  replace H := H.below hb
  clear hb
  try clear C
  try simp only [World.size_alloc, List.nil_append, List.cons_append, List.append_assoc] at H
  try clear w1
  have C := H.cells
  try simp only [cellsOf, cellsM, apartOf, apartM, and_true] at C
  dsimp only
  go_upto_region 4 with fail
  rw [HAS.out]
  go_wp2_with fail
  go_ret
  exact ⟨rfl, H.done⟩
end Go.Proofs.Ytfmcicmbehjdcaa
