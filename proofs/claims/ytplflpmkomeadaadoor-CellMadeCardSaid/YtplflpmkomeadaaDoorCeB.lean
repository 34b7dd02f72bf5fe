/- Chapter 13, small functions: the bytes of a word, codes that are valid, words asked for zeros and compared. -/
import Derived.Test.YtplflpmkomeadaaDoorCeA
import Derived.Test.YtplflpmkomeadaaDoorK4
namespace Go.Proofs.YtplflpmkomeadaaDoor
set_option linter.unusedSimpArgs false
set_option linter.unusedVariables false
open Go.RowKit
set_option maxRecDepth 100000
attribute [local irreducible] wpX wpF Calls

/-- Which codes are valid. -/
def codeB (kd dt ck fx : Int) : Bool := decide (kd = 1 ∧ dt = 8 ∧ ck = 1 ∧ fx = 1) || decide (kd = 2 ∧ 1 ≤ dt ∧ dt ≤ 32 ∧ 1 ≤ ck ∧ ck ≤ 8 ∧ 0 ≤ fx ∧ 2 * fx ≤ ck)
theorem codeB_rng {kd dt ck fx : Int} (h : codeB kd dt ck fx = true) : (1 ≤ dt ∧ dt ≤ 32) ∧ (1 ≤ ck ∧ ck ≤ 8) := by
  unfold codeB at h
  rcases Bool.or_eq_true_iff.1 h with h | h
  · have := of_decide_eq_true h; omega
  · have := of_decide_eq_true h; omega
set_option maxHeartbeats 4000000 in
theorem r07code_any (kd dt ck fx : Int) (w : World) : Calls Tryd.prog 26 #[.agg #[.int .i64 kd, .int .i64 dt, .int .i64 ck, .int .i64 fx]] w (Gives (.bool (codeB kd dt ck fx)) w) := by
  by_cases hk1 : kd = 1
  · subst hk1
    by_cases h1 : dt = 8
    · skip
      by_cases h2 : ck = 1
      · skip
        by_cases h3 : fx = 1
        · skip
          rw [show codeB 1 dt ck fx = true from by unfold codeB; simp; omega]
          go_enter Tryd.func26, Tryd.ntmps26
          have H := HS.start NoD w
          go_wp2_with fail
          go_ret
          exact ⟨by first | rfl | go_simp, H.alloc.done⟩
        · skip
          rw [show codeB 1 dt ck fx = false from by unfold codeB; simp; omega]
          go_enter Tryd.func26, Tryd.ntmps26
          have H := HS.start NoD w
          go_wp2_with fail
          go_ret
          exact ⟨by first | rfl | go_simp, H.alloc.done⟩
      · skip
        rw [show codeB 1 dt ck fx = false from by unfold codeB; simp; omega]
        go_enter Tryd.func26, Tryd.ntmps26
        have H := HS.start NoD w
        go_wp2_with fail
        go_ret
        exact ⟨by first | rfl | go_simp, H.alloc.done⟩
    · skip
      rw [show codeB 1 dt ck fx = false from by unfold codeB; simp; omega]
      go_enter Tryd.func26, Tryd.ntmps26
      have H := HS.start NoD w
      go_wp2_with fail
      go_ret
      exact ⟨by first | rfl | go_simp, H.alloc.done⟩
  · by_cases hk2 : kd = 2
    · subst hk2
      by_cases h1 : 1 ≤ dt
      · skip
        by_cases h2 : dt ≤ 32
        · skip
          by_cases h3 : 1 ≤ ck
          · skip
            by_cases h4 : ck ≤ 8
            · skip
              by_cases h5 : 0 ≤ fx
              · skip
                have hq : ck.tdiv 2 = ck / 2 := Int.tdiv_eq_ediv_of_nonneg (by omega)
                obtain ⟨h, hh⟩ : ∃ h, h = ck / 2 := ⟨_, rfl⟩
                have hh1 : 2 * h ≤ ck ∧ ck < 2 * h + 2 := by omega
                rw [← hh] at hq
                have hw : IntKind.i64.wrap h = h := IntWalk.i64_in _ (by omega)
                clear hh
                by_cases h6 : fx ≤ h
                · skip
                  rw [show codeB 2 dt ck fx = true from by unfold codeB; simp; omega]
                  go_enter Tryd.func26, Tryd.ntmps26
                  have H := HS.start NoD w
                  go_wp2_with fail
                  go_ret
                  exact ⟨by first | rfl | go_simp, H.alloc.done⟩
                · skip
                  rw [show codeB 2 dt ck fx = false from by unfold codeB; simp; omega]
                  go_enter Tryd.func26, Tryd.ntmps26
                  have H := HS.start NoD w
                  go_wp2_with fail
                  go_ret
                  exact ⟨by first | rfl | go_simp, H.alloc.done⟩
              · skip
                rw [show codeB 2 dt ck fx = false from by unfold codeB; simp; omega]
                go_enter Tryd.func26, Tryd.ntmps26
                have H := HS.start NoD w
                go_wp2_with fail
                go_ret
                exact ⟨by first | rfl | go_simp, H.alloc.done⟩
            · skip
              rw [show codeB 2 dt ck fx = false from by unfold codeB; simp; omega]
              go_enter Tryd.func26, Tryd.ntmps26
              have H := HS.start NoD w
              go_wp2_with fail
              go_ret
              exact ⟨by first | rfl | go_simp, H.alloc.done⟩
          · skip
            rw [show codeB 2 dt ck fx = false from by unfold codeB; simp; omega]
            go_enter Tryd.func26, Tryd.ntmps26
            have H := HS.start NoD w
            go_wp2_with fail
            go_ret
            exact ⟨by first | rfl | go_simp, H.alloc.done⟩
        · skip
          rw [show codeB 2 dt ck fx = false from by unfold codeB; simp; omega]
          go_enter Tryd.func26, Tryd.ntmps26
          have H := HS.start NoD w
          go_wp2_with fail
          go_ret
          exact ⟨by first | rfl | go_simp, H.alloc.done⟩
      · skip
        rw [show codeB 2 dt ck fx = false from by unfold codeB; simp; omega]
        go_enter Tryd.func26, Tryd.ntmps26
        have H := HS.start NoD w
        go_wp2_with fail
        go_ret
        exact ⟨by first | rfl | go_simp, H.alloc.done⟩
    · skip
      rw [show codeB kd dt ck fx = false from by unfold codeB; simp; omega]
      go_enter Tryd.func26, Tryd.ntmps26
      have H := HS.start NoD w
      go_wp2_with fail
      go_ret
      exact ⟨by first | rfl | go_simp, H.alloc.done⟩
set_option maxHeartbeats 4000000 in
theorem scode_any (kd dt ck fx : Int) (w : World) : Calls Tryd.prog 54 #[.agg #[.int .i64 kd, .int .i64 dt, .int .i64 ck, .int .i64 fx]] w (Gives (.bool (codeB kd dt ck fx)) w) := by
  by_cases hk1 : kd = 1
  · subst hk1
    by_cases h1 : dt = 8
    · skip
      by_cases h2 : ck = 1
      · skip
        by_cases h3 : fx = 1
        · skip
          rw [show codeB 1 dt ck fx = true from by unfold codeB; simp; omega]
          go_enter Tryd.func54, Tryd.ntmps54
          have H := HS.start NoD w
          go_wp2_with fail
          go_ret
          exact ⟨by first | rfl | go_simp, H.alloc.done⟩
        · skip
          rw [show codeB 1 dt ck fx = false from by unfold codeB; simp; omega]
          go_enter Tryd.func54, Tryd.ntmps54
          have H := HS.start NoD w
          go_wp2_with fail
          go_ret
          exact ⟨by first | rfl | go_simp, H.alloc.done⟩
      · skip
        rw [show codeB 1 dt ck fx = false from by unfold codeB; simp; omega]
        go_enter Tryd.func54, Tryd.ntmps54
        have H := HS.start NoD w
        go_wp2_with fail
        go_ret
        exact ⟨by first | rfl | go_simp, H.alloc.done⟩
    · skip
      rw [show codeB 1 dt ck fx = false from by unfold codeB; simp; omega]
      go_enter Tryd.func54, Tryd.ntmps54
      have H := HS.start NoD w
      go_wp2_with fail
      go_ret
      exact ⟨by first | rfl | go_simp, H.alloc.done⟩
  · by_cases hk2 : kd = 2
    · subst hk2
      by_cases h1 : 1 ≤ dt
      · skip
        by_cases h2 : dt ≤ 32
        · skip
          by_cases h3 : 1 ≤ ck
          · skip
            by_cases h4 : ck ≤ 8
            · skip
              by_cases h5 : 0 ≤ fx
              · skip
                have hq : ck.tdiv 2 = ck / 2 := Int.tdiv_eq_ediv_of_nonneg (by omega)
                obtain ⟨h, hh⟩ : ∃ h, h = ck / 2 := ⟨_, rfl⟩
                have hh1 : 2 * h ≤ ck ∧ ck < 2 * h + 2 := by omega
                rw [← hh] at hq
                have hw : IntKind.i64.wrap h = h := IntWalk.i64_in _ (by omega)
                clear hh
                by_cases h6 : fx ≤ h
                · skip
                  rw [show codeB 2 dt ck fx = true from by unfold codeB; simp; omega]
                  go_enter Tryd.func54, Tryd.ntmps54
                  have H := HS.start NoD w
                  go_wp2_with fail
                  go_ret
                  exact ⟨by first | rfl | go_simp, H.alloc.done⟩
                · skip
                  rw [show codeB 2 dt ck fx = false from by unfold codeB; simp; omega]
                  go_enter Tryd.func54, Tryd.ntmps54
                  have H := HS.start NoD w
                  go_wp2_with fail
                  go_ret
                  exact ⟨by first | rfl | go_simp, H.alloc.done⟩
              · skip
                rw [show codeB 2 dt ck fx = false from by unfold codeB; simp; omega]
                go_enter Tryd.func54, Tryd.ntmps54
                have H := HS.start NoD w
                go_wp2_with fail
                go_ret
                exact ⟨by first | rfl | go_simp, H.alloc.done⟩
            · skip
              rw [show codeB 2 dt ck fx = false from by unfold codeB; simp; omega]
              go_enter Tryd.func54, Tryd.ntmps54
              have H := HS.start NoD w
              go_wp2_with fail
              go_ret
              exact ⟨by first | rfl | go_simp, H.alloc.done⟩
          · skip
            rw [show codeB 2 dt ck fx = false from by unfold codeB; simp; omega]
            go_enter Tryd.func54, Tryd.ntmps54
            have H := HS.start NoD w
            go_wp2_with fail
            go_ret
            exact ⟨by first | rfl | go_simp, H.alloc.done⟩
        · skip
          rw [show codeB 2 dt ck fx = false from by unfold codeB; simp; omega]
          go_enter Tryd.func54, Tryd.ntmps54
          have H := HS.start NoD w
          go_wp2_with fail
          go_ret
          exact ⟨by first | rfl | go_simp, H.alloc.done⟩
      · skip
        rw [show codeB 2 dt ck fx = false from by unfold codeB; simp; omega]
        go_enter Tryd.func54, Tryd.ntmps54
        have H := HS.start NoD w
        go_wp2_with fail
        go_ret
        exact ⟨by first | rfl | go_simp, H.alloc.done⟩
    · skip
      rw [show codeB kd dt ck fx = false from by unfold codeB; simp; omega]
      go_enter Tryd.func54, Tryd.ntmps54
      have H := HS.start NoD w
      go_wp2_with fail
      go_ret
      exact ⟨by first | rfl | go_simp, H.alloc.done⟩
theorem cchips_any (kd dt ck fx : Int) (hd : 0 ≤ dt ∧ dt ≤ 1000) (hc : 0 ≤ ck ∧ ck ≤ 1000) (w : World) : Calls Tryd.prog 43 #[.agg #[.int .i64 kd, .int .i64 dt, .int .i64 ck, .int .i64 fx]] w (Gives (.int .i64 (dt + ck)) w) := by
  obtain ⟨hd0, hd1⟩ := hd
  obtain ⟨hc0, hc1⟩ := hc
  go_enter Tryd.func43, Tryd.ntmps43
  have H := HS.start NoD w
  go_wp2_with fail
  go_ret
  exact ⟨rfl, H.alloc.done⟩
theorem r13chips_any (kd dt ck fx : Int) (hd : 0 ≤ dt ∧ dt ≤ 1000) (hc : 0 ≤ ck ∧ ck ≤ 1000) (w : World) : Calls Tryd.prog 14 #[.agg #[.int .i64 kd, .int .i64 dt, .int .i64 ck, .int .i64 fx]] w (Gives (.int .i64 (dt + ck)) w) := by
  obtain ⟨hd0, hd1⟩ := hd
  obtain ⟨hc0, hc1⟩ := hc
  go_enter Tryd.func14, Tryd.ntmps14
  have H := HS.start NoD w
  go_wp2_with fail
  go_ret
  exact ⟨rfl, H.alloc.done⟩
/-- What a search over a slice by a test hands back. -/
def FindPostU8 (p : Int → Bool) (xs : List Int) (w : World) (e : Ending) (w' : World) : Prop :=
  ∃ r : Int, e = .returned (.int .i64 r) ∧ ((r = -1 ∧ ∀ i, i < xs.length → p xs[i]! = false) ∨ ∃ i : Nat, i < xs.length ∧ r = i ∧ p xs[i]! = true ∧ ∀ j, j < i → p xs[j]! = false) ∧ Below w.heap.size w w'
/-- The closure g with the captured addresses lb answers by p. -/
def AsksU8 (g : Nat) (lb : Array Value) (p : Int → Bool) (w : World) : Prop := ∀ W x, Below w.heap.size w W → Calls Tryd.prog g (#[.int .u8 x] ++ lb) W (Gives (.bool (p x)) W)
set_option maxHeartbeats 2000000 in
theorem findU8 (g : Nat) (eg : ∀ args w, (callFunc g args).run Tryd.prog w = .ok (.enter g args) w) (lb : Array Value) (p : Int → Bool) {sa : Option Addr} (c : Nat) {xs : List Int} (hx : xs.length ≤ 9223372036854775807) (w : World) (hl : Lies w w.heap.size sa 1 xs.length (fun j => bC1 xs[j]!)) (hp : AsksU8 g lb p w) :
    Calls Tryd.prog 99 #[.slice sa xs.length c, .func (.func g) #[] lb] w (FindPostU8 p xs w) := by
  have HL := Lib.hid hl
  have HP := Lib.hid hp
  clear hl hp
  go_enter Tryd.func99, Tryd.ntmps99
  have H := HS.start NoD w
  go_wp2_with fail
  go_loopw [5, 8] (fun _ i wr => ∃ (j : Nat), i = .int .i64 j ∧ j ≤ xs.length ∧ Hid (∀ i, i < j → p xs[i]! = false) ∧ HS NoD w [] wr) (fun _ i _ => xs.length - (intOf i).toNat)
  case atStart => exact ⟨0, rfl, Nat.zero_le _, fun i hi => absurd hi (Nat.not_lt_zero _), H⟩
  case round =>
    clear H
    obtain ⟨j, rfl, hj, HF, H⟩ := hrel
    skip
    by_cases hlt : j < xs.length
    · obtain ⟨b, o, rfl, hb, hc⟩ := (H.lies HL.out).at hlt
      have hcall := Lib.hid (fun (b : Bool) (e : p xs[j]! = b) => by have := HP.out wr xs[j]! H.done; rw [e] at this; exact this)
      obtain ⟨x, hxj⟩ : ∃ x, x = xs[j]! := ⟨_, rfl⟩
      rw [← hxj] at hc hcall
      have c0 : wr.cell? ⟨b, o + j, none⟩ = some (.int .u8 x) := by have := hc 0 _ rfl; simpa using this
      have HX := Lib.hid hxj
      clear hc hxj
      cases hq : p x with
      | true =>
        have HQ := Lib.hid hq
        have hca := hcall.out _ hq
        clear hq hcall
        go_wp2_with fail
        refine hca.mono ?_
        rintro _ w1 ⟨rfl, hb1⟩
        clear hca
        go_wp2_with fail
        go_ret
        exact ⟨_, rfl, .inr ⟨j, hlt, rfl, by rw [← HX.out]; exact HQ.out, HF.out⟩, (H.below hb1).done⟩
      | false =>
        have HQ := Lib.hid hq
        have hca := hcall.out _ hq
        clear hq hcall
        go_wp2_with fail
        refine hca.mono ?_
        rintro _ w1 ⟨rfl, hb1⟩
        clear hca
        go_wp2_with fail
        go_roundw
        case rel =>
          refine ⟨j + 1, by go_num, by omega, (show Hid _ from fun i hi => ?_), H.below hb1⟩
          by_cases e : i = j
          · subst e; rw [← HX.out]; exact HQ.out
          · exact HF.out i (by omega)
        case measure => simp [intOf]; omega
    · go_wp2_with fail
      go_ret
      exact ⟨-1, rfl, .inl ⟨rfl, fun i hi => HF.out i (by omega)⟩, H.done⟩
theorem any_ofU8 {p : Int → Bool} {xs : List Int} {r : Int} (h : (r = -1 ∧ ∀ i, i < xs.length → p xs[i]! = false) ∨ ∃ i : Nat, i < xs.length ∧ r = i ∧ p xs[i]! = true ∧ ∀ j, j < i → p xs[j]! = false) : decide (0 ≤ r) = xs.any p := by
  rcases h with ⟨rfl, h⟩ | ⟨i, hi, rfl, h, -⟩
  · symm
    rw [show decide ((0 : Int) ≤ -1) = false from rfl, List.any_eq_false]
    intro x hx
    obtain ⟨i, hi, rfl⟩ := List.getElem_of_mem hx
    have := h i hi
    rw [getElem!_pos xs i hi] at this
    simp [this]
  · symm
    rw [show decide ((0 : Int) ≤ (i : Int)) = true by simp, List.any_eq_true]
    exact ⟨xs[i]!, by rw [getElem!_pos xs i hi]; exact List.getElem_mem _, h⟩
theorem containsU8 (g : Nat) (eg : ∀ args w, (callFunc g args).run Tryd.prog w = .ok (.enter g args) w) (lb : Array Value) (p : Int → Bool) {sa : Option Addr} (c : Nat) {xs : List Int} (hx : xs.length ≤ 9223372036854775807) (w : World) (hl : Lies w w.heap.size sa 1 xs.length (fun j => bC1 xs[j]!)) (hp : AsksU8 g lb p w) :
    Calls Tryd.prog 81 #[.slice sa xs.length c, .func (.func g) #[] lb] w (Gives (.bool (xs.any p)) w) := by
  have hf := Lib.hid (findU8 g eg lb p c hx w hl hp)
  clear hl hp
  go_enter Tryd.func81, Tryd.ntmps81
  have H := HS.start NoD w
  go_wp2_with fail
  refine (hf.out).mono ?_
  rintro _ w1 ⟨r, rfl, hr, hb⟩
  replace H := H.below hb
  clear hb
  try clear C
  try simp only [World.size_alloc, List.nil_append, List.cons_append, List.append_assoc] at H
  have C := H.cells
  try simp only [cellsOf, cellsM, apartOf, apartM, and_true] at C
  dsimp only
  go_wp2_with fail
  go_ret
  exact ⟨by rw [← any_ofU8 hr]; rfl, H.done⟩


theorem blank1_any (x : Int) (w : World) : Calls Tryd.prog 82 (#[.int .u8 x] ++ #[]) w (Gives (.bool (!(x == 0))) w) := by
  show Calls Tryd.prog 82 #[.int .u8 x] w _
  by_cases h : x = 0
  · subst h
    go_enter Tryd.func82, Tryd.ntmps82
    have H := HS.start NoD w
    go_wp2_with fail
    go_ret
    exact ⟨rfl, H.done⟩
  · have hb : (x != 0) = true := bne_iff_ne.2 h
    have hb2 : (x == 0) = false := beq_eq_false_iff_ne.2 h
    go_enter Tryd.func82, Tryd.ntmps82
    have H := HS.start NoD w
    go_wp2_with fail
    go_ret
    exact ⟨by rw [hb2]; rfl, H.done⟩
theorem any_zero (bs : List Int) : bs.any (fun x => !(x == 0)) = !zeroB bs := by
  unfold zeroB
  induction bs with
  | nil => rfl
  | cons b l ih => rw [List.any_cons, List.all_cons, ih]; cases (b == 0) <;> rfl
set_option maxHeartbeats 2000000 in
theorem blank_any (m : Wm) (x : Sv) (hm : m.bs.length ≤ 9223372036854775807) (w : World) (h : BytesAt w x m.bs) : Calls Tryd.prog 55 #[cwV m x] w (Gives (.bool (blankW m)) w) := by
  obtain ⟨sa, n, c⟩ := x
  obtain ⟨ix, bs, po⟩ := m
  obtain rfl : n = bs.length := h.len
  have HB := Lib.hid h
  have HF := Lib.hid (fun wx (hx : BytesAt wx ⟨sa, bs.length, c⟩ bs) => containsU8 82 (fun _ _ => rfl) #[] (fun x => !(x == 0)) c (xs := bs) hm wx hx.lies (fun W x _ => blank1_any x W))
  clear h hm
  show Calls Tryd.prog 55 #[.agg #[.int .i64 ix, .slice sa bs.length c, .bool po]] w _
  cases po with
  | true =>
    go_enter Tryd.func55, Tryd.ntmps55
    have H := HS.start NoD w
    go_wp2_with fail
    go_ret
    exact ⟨rfl, H.alloc.done⟩
  | false =>
    rw [show blankW ⟨ix, bs, false⟩ = zeroB bs from rfl]
    go_enter Tryd.func55, Tryd.ntmps55
    have H := HS.start NoD w
    go_upto_region 1 with fail
    generalize hwb : w.alloc _ = w1
    replace H := HS.eqW hwb H.alloc
    try simp only [World.size_alloc, List.nil_append, List.cons_append, List.append_assoc] at H
    clear hwb
    generalize w.heap.size = bP at H ⊢
    try clear C
    have C := H.cells
    try simp only [cellsOf, cellsM, apartOf, apartM, and_true] at C
    go_wp2_with fail
    refine (HF.out _ (HB.out.up H.done)).mono ?_
    rintro _ w2 ⟨rfl, hb⟩
    rw [any_zero]
    replace H := H.below hb
    clear hb HF
    skip
    try clear C
    try simp only [World.size_alloc, List.nil_append, List.cons_append, List.append_assoc] at H
    have C := H.cells
    try simp only [cellsOf, cellsM, apartOf, apartM, and_true] at C
    cases hz : zeroB bs
    all_goals
      have HZ := Lib.hid hz
      clear hz
      go_wp2_with fail
      go_ret
      exact ⟨by rw [HZ.out]; first | rfl | go_simp, H.done⟩
set_option maxHeartbeats 2000000 in
theorem zeros13_any (x : Sv) (bs : List Int) (hm : bs.length ≤ 9223372036854775807) (w : World) (h : BytesAt w x bs) : Calls Tryd.prog 85 #[.slice x.sa x.n x.c] w (Gives (.bool (zeroB bs)) w) := by
  obtain ⟨sa, n, c⟩ := x
  obtain rfl : n = bs.length := h.len
  have HL := Lib.hid h.lies
  clear h
  show Calls Tryd.prog 85 #[.slice sa bs.length c] w _
  go_enter Tryd.func85, Tryd.ntmps85
  have H := HS.start NoD w
  go_wp2_with fail
  go_loopw [3] (fun i wr => ∃ (j : Nat), i = .int .i64 j ∧ j ≤ bs.length ∧ Hid (zeroB (bs.take j) = true) ∧ HS NoD w [] wr) (fun i _ => bs.length - (intOf i).toNat)
  case atStart => exact ⟨0, rfl, Nat.zero_le _, (show Hid _ from rfl), H⟩
  case round =>
    clear H
    obtain ⟨j, rfl, hj, HZ, H⟩ := hrel
    skip
    by_cases hlt : j < bs.length
    · obtain ⟨b, o, rfl, hb, hc⟩ := (H.lies HL.out).at hlt
      have HZN := Lib.hid (show zeroB (bs.take (j + 1)) = (bs[j]! == 0) by
        have hz := HZ.out
        unfold zeroB at hz ⊢
        rw [List.take_succ_eq_append_getElem hlt, List.all_append, hz, getElem!_pos bs j hlt]; simp)
      have HZA := Lib.hid (show (bs[j]! == 0) = false → zeroB bs = false from fun he => by
        unfold zeroB
        rw [List.all_eq_false]
        refine ⟨bs[j]!, bang_mem hlt, ?_⟩
        rw [he]; simp)
      have c0 : wr.cell? ⟨b, o + j, none⟩ = some (.int .u8 bs[j]!) := by have := hc 0 _ rfl; simpa using this
      generalize bs[j]! = x at c0 HZN HZA
      clear hc
      by_cases hx : x = 0
      · subst hx
        go_wp2_with fail
        go_roundw
        case rel => exact ⟨j + 1, by go_num, by omega, (show Hid _ from by rw [HZN.out]; rfl), H⟩
        case measure => simp [intOf]; omega
      · have hxb : (x != 0) = true := bne_iff_ne.2 hx
        have HXF := Lib.hid (HZA.out (beq_eq_false_iff_ne.2 hx))
        go_wp2_with fail
        go_ret
        exact ⟨by rw [HXF.out]; first | rfl | go_simp, H.done⟩
    · obtain rfl : j = bs.length := by omega
      go_wp2_with fail
      go_ret
      exact ⟨by have := HZ.out; rw [List.take_length] at this; rw [this]; first | rfl | go_simp, H.done⟩
/-- Which of two lists of bytes are one. -/
theorem take_ne {xs ys : List Int} {j : Nat} (h1 : j < xs.length) (h2 : j < ys.length) (h : xs[j]! ≠ ys[j]!) : xs ≠ ys := fun e => h (by rw [e])
theorem take_step {xs ys : List Int} {j : Nat} (h1 : j < xs.length) (h2 : j < ys.length) (h : xs.take j = ys.take j) (he : xs[j]! = ys[j]!) : xs.take (j + 1) = ys.take (j + 1) := by
  rw [List.take_succ_eq_append_getElem h1, List.take_succ_eq_append_getElem h2, h, ← getElem!_pos xs j h1, ← getElem!_pos ys j h2, he]
set_option maxHeartbeats 4000000 in
theorem r04same_any (x y : Sv) (xs ys : List Int) (hm : xs.length ≤ 9223372036854775807) (hn : ys.length ≤ 9223372036854775807) (w : World) (hx : BytesAt w x xs) (hy : BytesAt w y ys) : Calls Tryd.prog 58 #[.slice x.sa x.n x.c, .slice y.sa y.n y.c] w (Gives (.bool (decide (xs = ys))) w) := by
  obtain ⟨xa, xn, xc⟩ := x
  obtain ⟨ya, yn, yc⟩ := y
  obtain rfl : xn = xs.length := hx.len
  obtain rfl : yn = ys.length := hy.len
  have HX := Lib.hid hx.lies
  have HY := Lib.hid hy.lies
  clear hx hy
  show Calls Tryd.prog 58 #[.slice xa xs.length xc, .slice ya ys.length yc] w _
  by_cases hl : xs.length = ys.length
  · have hli : (xs.length : Int) = ys.length := by omega
    have hlb : ((xs.length : Int) != ys.length) = false := by rw [hli]; simp
    have HLE := Lib.hid hl
    clear hl
    go_enter Tryd.func58, Tryd.ntmps58
    have H := HS.start NoD w
    go_wp2_with fail
    clear hlb
    go_loopw [5] (fun i wr => ∃ (j : Nat), i = .int .i64 j ∧ j ≤ xs.length ∧ Hid (xs.take j = ys.take j) ∧ HS NoD w [] wr) (fun i _ => xs.length - (intOf i).toNat)
    case atStart => exact ⟨0, rfl, Nat.zero_le _, (show Hid _ from rfl), H⟩
    case round =>
      clear H
      obtain ⟨j, rfl, hj, HT, H⟩ := hrel
      skip
      by_cases hlt : j < xs.length
      · have hlt2 : j < ys.length := by omega
        have HJ := Lib.hid hlt
        have HJ2 := Lib.hid hlt2
        obtain ⟨b, o, rfl, hb, hc⟩ := (H.lies HX.out).at hlt
        obtain ⟨b2, o2, rfl, hb2, hc2⟩ := (H.lies HY.out).at hlt2
        have HNE := Lib.hid (fun he => take_ne hlt hlt2 he)
        have HST := Lib.hid (fun he => take_step hlt hlt2 HT.out he)
        have c0 : wr.cell? ⟨b, o + j, none⟩ = some (.int .u8 xs[j]!) := by have := hc 0 _ rfl; simpa using this
        have d0 : wr.cell? ⟨b2, o2 + j, none⟩ = some (.int .u8 ys[j]!) := by have := hc2 0 _ rfl; simpa using this
        clear hc hc2
        generalize xs[j]! = u at c0 HNE HST
        generalize ys[j]! = v at d0 HNE HST
        by_cases huv : u = v
        · subst huv
          go_upto_region 6 with fail
          go_region
          all_goals
            go_wp2_with fail
            go_roundw
            case rel => exact ⟨j + 1, by go_num, by omega, (show Hid _ from HST.out rfl), H.drew⟩
            case measure => simp [intOf]; omega
        · have huvb : (u != v) = true := bne_iff_ne.2 huv
          have HDF := Lib.hid (HNE.out huv)
          go_upto_region 6 with fail
          go_region
          all_goals
            go_wp2_with fail
            go_ret
            exact ⟨by rw [decide_eq_false HDF.out]; first | rfl | go_simp, H.drew.done⟩
      · obtain rfl : j = xs.length := by omega
        go_wp2_with fail
        go_ret
        exact ⟨by have := HT.out; rw [List.take_length, HLE.out, List.take_length] at this; rw [decide_eq_true this]; first | rfl | go_simp, H.done⟩
  · have hli : ¬ (xs.length : Int) = ys.length := by omega
    have hlb : ((xs.length : Int) != ys.length) = true := bne_iff_ne.2 hli
    have HDF := Lib.hid (show xs ≠ ys from fun e => hl (by rw [e]))
    clear hl
    go_enter Tryd.func58, Tryd.ntmps58
    have H := HS.start NoD w
    go_wp2_with fail
    go_ret
    exact ⟨by rw [decide_eq_false HDF.out]; first | rfl | go_simp, H.done⟩
end Go.Proofs.YtplflpmkomeadaaDoor
