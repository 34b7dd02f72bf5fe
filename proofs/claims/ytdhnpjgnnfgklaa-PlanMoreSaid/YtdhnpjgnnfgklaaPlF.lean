/- Plan (chapter 39): searches in lists of places, needs, ints. -/
import Derived.Test.YtdhnpjgnnfgklaaPlE
namespace Go.Proofs.Ytdhnpjgnnfgklaa
set_option linter.unusedSimpArgs false
set_option linter.unusedVariables false
open Go.RowKit
set_option maxRecDepth 100000
attribute [local irreducible] wpX wpF Calls

/-- What a search over a slice by a test hands back. -/
def FindPostP (p : P6 → Bool) (xs : List P6) (w : World) (e : Ending) (w' : World) : Prop :=
  ∃ r : Int, e = .returned (.int .i64 r) ∧ ((r = -1 ∧ ∀ i, i < xs.length → p xs[i]! = false) ∨ ∃ i : Nat, i < xs.length ∧ r = i ∧ p xs[i]! = true ∧ ∀ j, j < i → p xs[j]! = false) ∧ Below w.heap.size w w'
/-- The closure g with the captured addresses lb answers by p. -/
def AsksP (g : Nat) (lb : Array Value) (p : P6 → Bool) (w : World) : Prop := ∀ W x, Below w.heap.size w W → Calls Try.prog g (#[.agg (pC x).toArray] ++ lb) W (Gives (.bool (p x)) W)
set_option maxHeartbeats 2000000 in
theorem findP (g : Nat) (eg : ∀ args w, (callFunc g args).run Try.prog w = .ok (.enter g args) w) (lb : Array Value) (p : P6 → Bool) {sa : Option Addr} (c : Nat) {xs : List P6} (hx : xs.length ≤ 100000) (w : World) (hl : Lies w w.heap.size sa 6 xs.length (fun j => pC xs[j]!)) (hp : AsksP g lb p w) :
    Calls Try.prog 78 #[.slice sa xs.length c, .func (.func g) #[] lb] w (FindPostP p xs w) := by
  have HL := Lib.hid hl
  have HP := Lib.hid hp
  clear hl hp
  go_enter Try.func78, Try.ntmps78
  have H := HS.start NoD w
  go_wp2_with fail
  go_loopw [5, 8] (fun _ i wr => ∃ (j : Nat), i = .int .i64 j ∧ j ≤ xs.length ∧ Hid (∀ i, i < j → p xs[i]! = false) ∧ HS NoD w [] wr) (fun _ i _ => xs.length - (intOf i).toNat)
  case atStart => exact ⟨0, rfl, Nat.zero_le _, fun i hi => absurd hi (Nat.not_lt_zero _), H⟩
  case round =>
    clear H
    obtain ⟨j, rfl, hj, HF, H⟩ := hrel
    skip
    by_cases hlt : j < xs.length
    · obtain ⟨b, o, rfl, hb, hc⟩ := (H.lies HL.out).at hlt
      have hcall := Lib.hid (fun (b : Bool) (e : p xs[j]! = b) => by have := HP.out wr xs[j]! H.done; rw [e] at this; exact this)
      obtain ⟨x, hxj⟩ : ∃ x, x = xs[j]! := ⟨_, rfl⟩
      rw [← hxj] at hc hcall
      have c0 : wr.cell? ⟨b, o + j * 6, none⟩ = _ := hc 0 _ rfl
      have c1 : wr.cell? ⟨b, o + j * 6 + 1, none⟩ = _ := hc 1 _ rfl
      have c2 : wr.cell? ⟨b, o + j * 6 + 2, none⟩ = _ := hc 2 _ rfl
      have c3 : wr.cell? ⟨b, o + j * 6 + 3, none⟩ = _ := hc 3 _ rfl
      have c4 : wr.cell? ⟨b, o + j * 6 + 4, none⟩ = _ := hc 4 _ rfl
      have c5 : wr.cell? ⟨b, o + j * 6 + 5, none⟩ = _ := hc 5 _ rfl
      have HX := Lib.hid hxj
      clear hc hxj
      cases hq : p x with
      | true =>
        have HQ := Lib.hid hq
        have hca := hcall.out _ hq
        clear hq hcall
        go_wp2_with fail
        refine hca.mono ?_
        rintro _ w1 ⟨rfl, hb1⟩
        clear hca
        go_wp2_with fail
        go_ret
        exact ⟨_, rfl, .inr ⟨j, hlt, rfl, by rw [← HX.out]; exact HQ.out, HF.out⟩, (H.below hb1).done⟩
      | false =>
        have HQ := Lib.hid hq
        have hca := hcall.out _ hq
        clear hq hcall
        go_wp2_with fail
        refine hca.mono ?_
        rintro _ w1 ⟨rfl, hb1⟩
        clear hca
        go_wp2_with fail
        go_roundw
        case rel =>
          refine ⟨j + 1, by go_num, by omega, (show Hid _ from fun i hi => ?_), H.below hb1⟩
          by_cases e : i = j
          · subst e; rw [← HX.out]; exact HQ.out
          · exact HF.out i (by omega)
        case measure => simp [intOf]; omega
    · go_wp2_with fail
      go_ret
      exact ⟨-1, rfl, .inl ⟨rfl, fun i hi => HF.out i (by omega)⟩, H.done⟩
theorem any_ofP {p : P6 → Bool} {xs : List P6} {r : Int} (h : (r = -1 ∧ ∀ i, i < xs.length → p xs[i]! = false) ∨ ∃ i : Nat, i < xs.length ∧ r = i ∧ p xs[i]! = true ∧ ∀ j, j < i → p xs[j]! = false) : decide (0 ≤ r) = xs.any p := by
  rcases h with ⟨rfl, h⟩ | ⟨i, hi, rfl, h, -⟩
  · symm
    rw [show decide ((0 : Int) ≤ -1) = false from rfl, List.any_eq_false]
    intro x hx
    obtain ⟨i, hi, rfl⟩ := List.getElem_of_mem hx
    have := h i hi
    rw [getElem!_pos xs i hi] at this
    simp [this]
  · symm
    rw [show decide ((0 : Int) ≤ (i : Int)) = true by simp, List.any_eq_true]
    exact ⟨xs[i]!, by rw [getElem!_pos xs i hi]; exact List.getElem_mem _, h⟩
theorem containsP (g : Nat) (eg : ∀ args w, (callFunc g args).run Try.prog w = .ok (.enter g args) w) (lb : Array Value) (p : P6 → Bool) {sa : Option Addr} (c : Nat) {xs : List P6} (hx : xs.length ≤ 100000) (w : World) (hl : Lies w w.heap.size sa 6 xs.length (fun j => pC xs[j]!)) (hp : AsksP g lb p w) :
    Calls Try.prog 55 #[.slice sa xs.length c, .func (.func g) #[] lb] w (Gives (.bool (xs.any p)) w) := by
  have hf := Lib.hid (findP g eg lb p c hx w hl hp)
  clear hl hp
  go_enter Try.func55, Try.ntmps55
  have H := HS.start NoD w
  go_wp2_with fail
  refine (hf.out).mono ?_
  rintro _ w1 ⟨r, rfl, hr, hb⟩
  replace H := H.below hb
  clear hb
  try clear C
  try simp only [World.size_alloc, List.nil_append, List.cons_append, List.append_assoc] at H
  have C := H.cells
  try simp only [cellsOf, cellsM, apartOf, apartM, and_true] at C
  dsimp only
  go_wp2_with fail
  go_ret
  exact ⟨by rw [← any_ofP hr]; rfl, H.done⟩


/-- What a search over a slice by a test hands back. -/
def FindPostD (p : Nd → Bool) (xs : List Nd) (w : World) (e : Ending) (w' : World) : Prop :=
  ∃ r : Int, e = .returned (.int .i64 r) ∧ ((r = -1 ∧ ∀ i, i < xs.length → p xs[i]! = false) ∨ ∃ i : Nat, i < xs.length ∧ r = i ∧ p xs[i]! = true ∧ ∀ j, j < i → p xs[j]! = false) ∧ Below w.heap.size w w'
/-- The closure g with the captured addresses lb answers by p. -/
def AsksD (g : Nat) (lb : Array Value) (p : Nd → Bool) (w : World) : Prop := ∀ W x, Below w.heap.size w W → Calls Try.prog g (#[.agg (ndC x).toArray] ++ lb) W (Gives (.bool (p x)) W)
set_option maxHeartbeats 2000000 in
theorem findD (g : Nat) (eg : ∀ args w, (callFunc g args).run Try.prog w = .ok (.enter g args) w) (lb : Array Value) (p : Nd → Bool) {sa : Option Addr} (c : Nat) {xs : List Nd} (hx : xs.length ≤ 100000) (w : World) (hl : Lies w w.heap.size sa 7 xs.length (fun j => ndC xs[j]!)) (hp : AsksD g lb p w) :
    Calls Try.prog 61 #[.slice sa xs.length c, .func (.func g) #[] lb] w (FindPostD p xs w) := by
  have HL := Lib.hid hl
  have HP := Lib.hid hp
  clear hl hp
  go_enter Try.func61, Try.ntmps61
  have H := HS.start NoD w
  go_wp2_with fail
  go_loopw [5, 8] (fun _ i wr => ∃ (j : Nat), i = .int .i64 j ∧ j ≤ xs.length ∧ Hid (∀ i, i < j → p xs[i]! = false) ∧ HS NoD w [] wr) (fun _ i _ => xs.length - (intOf i).toNat)
  case atStart => exact ⟨0, rfl, Nat.zero_le _, fun i hi => absurd hi (Nat.not_lt_zero _), H⟩
  case round =>
    clear H
    obtain ⟨j, rfl, hj, HF, H⟩ := hrel
    skip
    by_cases hlt : j < xs.length
    · obtain ⟨b, o, rfl, hb, hc⟩ := (H.lies HL.out).at hlt
      have hcall := Lib.hid (fun (b : Bool) (e : p xs[j]! = b) => by have := HP.out wr xs[j]! H.done; rw [e] at this; exact this)
      obtain ⟨x, hxj⟩ : ∃ x, x = xs[j]! := ⟨_, rfl⟩
      rw [← hxj] at hc hcall
      have c0 : wr.cell? ⟨b, o + j * 7, none⟩ = _ := hc 0 _ rfl
      have c1 : wr.cell? ⟨b, o + j * 7 + 1, none⟩ = _ := hc 1 _ rfl
      have c2 : wr.cell? ⟨b, o + j * 7 + 2, none⟩ = _ := hc 2 _ rfl
      have c3 : wr.cell? ⟨b, o + j * 7 + 3, none⟩ = _ := hc 3 _ rfl
      have c4 : wr.cell? ⟨b, o + j * 7 + 4, none⟩ = _ := hc 4 _ rfl
      have c5 : wr.cell? ⟨b, o + j * 7 + 5, none⟩ = _ := hc 5 _ rfl
      have c6 : wr.cell? ⟨b, o + j * 7 + 6, none⟩ = _ := hc 6 _ rfl
      have HX := Lib.hid hxj
      clear hc hxj
      cases hq : p x with
      | true =>
        have HQ := Lib.hid hq
        have hca := hcall.out _ hq
        clear hq hcall
        go_wp2_with fail
        refine hca.mono ?_
        rintro _ w1 ⟨rfl, hb1⟩
        clear hca
        go_wp2_with fail
        go_ret
        exact ⟨_, rfl, .inr ⟨j, hlt, rfl, by rw [← HX.out]; exact HQ.out, HF.out⟩, (H.below hb1).done⟩
      | false =>
        have HQ := Lib.hid hq
        have hca := hcall.out _ hq
        clear hq hcall
        go_wp2_with fail
        refine hca.mono ?_
        rintro _ w1 ⟨rfl, hb1⟩
        clear hca
        go_wp2_with fail
        go_roundw
        case rel =>
          refine ⟨j + 1, by go_num, by omega, (show Hid _ from fun i hi => ?_), H.below hb1⟩
          by_cases e : i = j
          · subst e; rw [← HX.out]; exact HQ.out
          · exact HF.out i (by omega)
        case measure => simp [intOf]; omega
    · go_wp2_with fail
      go_ret
      exact ⟨-1, rfl, .inl ⟨rfl, fun i hi => HF.out i (by omega)⟩, H.done⟩
theorem any_ofD {p : Nd → Bool} {xs : List Nd} {r : Int} (h : (r = -1 ∧ ∀ i, i < xs.length → p xs[i]! = false) ∨ ∃ i : Nat, i < xs.length ∧ r = i ∧ p xs[i]! = true ∧ ∀ j, j < i → p xs[j]! = false) : decide (0 ≤ r) = xs.any p := by
  rcases h with ⟨rfl, h⟩ | ⟨i, hi, rfl, h, -⟩
  · symm
    rw [show decide ((0 : Int) ≤ -1) = false from rfl, List.any_eq_false]
    intro x hx
    obtain ⟨i, hi, rfl⟩ := List.getElem_of_mem hx
    have := h i hi
    rw [getElem!_pos xs i hi] at this
    simp [this]
  · symm
    rw [show decide ((0 : Int) ≤ (i : Int)) = true by simp, List.any_eq_true]
    exact ⟨xs[i]!, by rw [getElem!_pos xs i hi]; exact List.getElem_mem _, h⟩
theorem containsD (g : Nat) (eg : ∀ args w, (callFunc g args).run Try.prog w = .ok (.enter g args) w) (lb : Array Value) (p : Nd → Bool) {sa : Option Addr} (c : Nat) {xs : List Nd} (hx : xs.length ≤ 100000) (w : World) (hl : Lies w w.heap.size sa 7 xs.length (fun j => ndC xs[j]!)) (hp : AsksD g lb p w) :
    Calls Try.prog 41 #[.slice sa xs.length c, .func (.func g) #[] lb] w (Gives (.bool (xs.any p)) w) := by
  have hf := Lib.hid (findD g eg lb p c hx w hl hp)
  clear hl hp
  go_enter Try.func41, Try.ntmps41
  have H := HS.start NoD w
  go_wp2_with fail
  refine (hf.out).mono ?_
  rintro _ w1 ⟨r, rfl, hr, hb⟩
  replace H := H.below hb
  clear hb
  try clear C
  try simp only [World.size_alloc, List.nil_append, List.cons_append, List.append_assoc] at H
  have C := H.cells
  try simp only [cellsOf, cellsM, apartOf, apartM, and_true] at C
  dsimp only
  go_wp2_with fail
  go_ret
  exact ⟨by rw [← any_ofD hr]; rfl, H.done⟩

/-- Where a thing lies in a list. -/
def FindPl (f : P6) (fs : List P6) (r : Int) : Prop := (r = -1 ∧ ∀ i, i < fs.length → fs[i]! ≠ f) ∨ ∃ i : Nat, i < fs.length ∧ r = i ∧ fs[i]! = f ∧ ∀ j, j < i → fs[j]! ≠ f
def FindAtPl (f : P6) (fs : List P6) (w : World) (e : Ending) (w' : World) : Prop := ∃ r : Int, e = .returned (.int .i64 r) ∧ FindPl f fs r ∧ Below w.heap.size w w'
theorem FindPl.mem {f : P6} {fs : List P6} {r : Int} (h : FindPl f fs r) : decide (0 ≤ r) = decide (f ∈ fs) := by
  rcases h with ⟨rfl, h⟩ | ⟨i, hi, rfl, h, -⟩
  · rw [decide_eq_false (by omega), decide_eq_false]
    intro hm
    obtain ⟨i, hi, e⟩ := List.mem_iff_getElem.1 hm
    exact h i hi (by rw [getElem!_pos fs i hi]; exact e)
  · rw [decide_eq_true (by omega), decide_eq_true]
    rw [← h, getElem!_pos fs i hi]; exact List.getElem_mem hi
set_option maxHeartbeats 4000000 in
theorem indexPl (f : P6) {sa : Option Addr} (c : Nat) {fs : List P6} (hx : fs.length ≤ 9223372036854775807) (w : World) (hl : Lies w w.heap.size sa 6 fs.length (fun j => pC fs[j]!)) :
    Calls Try.prog 64 #[.slice sa fs.length c, kP f] w (FindAtPl f fs w) := by
  have HL := Lib.hid hl
  clear hl
  obtain ⟨p0, p1, p2, p3, p4, p5⟩ := f
  show Calls Try.prog 64 #[.slice sa fs.length c, v6 p0 p1 p2 p3 p4 p5] w _
  go_enter Try.func64, Try.ntmps64
  have H := HS.start NoD w
  go_upto_region 1 with fail
  generalize hwb : w.alloc _ = w1
  replace H := HS.eqW hwb H.alloc
  try simp only [World.size_alloc, List.nil_append, List.cons_append, List.append_assoc] at H
  clear hwb
  generalize w.heap.size = bV at H ⊢
  try clear C
  have C := H.cells
  try simp only [cellsOf, cellsM, apartOf, apartM, and_true] at C
  go_wp2_with fail
  go_loopw [5, 8] (fun _ i wr => ∃ (j : Nat), i = .int .i64 j ∧ j ≤ fs.length ∧ Hid (∀ i, i < j → fs[i]! ≠ (⟨p0, p1, p2, p3, p4, p5⟩ : P6)) ∧ HS NoD w [.blk bV #[.int .i64 p0, .int .i64 p1, .int .i64 p2, .int .i64 p3, .int .i64 p4, .int .i64 p5] 39] wr) (fun _ i _ => fs.length - (intOf i).toNat)
  case atStart => exact ⟨0, rfl, Nat.zero_le _, (show Hid _ from fun i hi => absurd hi (Nat.not_lt_zero _)), H⟩
  case round =>
    clear H
    try clear C
    obtain ⟨j, rfl, hj, HF, H⟩ := hrel
    skip
    try clear C
    try simp only [World.size_alloc, List.nil_append, List.cons_append, List.append_assoc] at H
    have C := H.cells
    try simp only [cellsOf, cellsM, apartOf, apartM, and_true] at C
    by_cases hlt : j < fs.length
    · obtain ⟨b, o, rfl, hb, hc⟩ := (H.lies HL.out).at hlt
      have hji : (j : Int) < fs.length := by omega
      have HLF := Lib.hid (fun (wx : World) (hx : Lies wx wx.heap.size (some ⟨b, o, none⟩) 6 fs.length (fun j => pC fs[j]!)) => show (∀ i v, (pC fs[j]!)[i]? = some v → wx.cell? ⟨b, o + j * 6 + i, none⟩ = some v) ∧ b < wx.heap.size from by
        obtain ⟨b9, o9, e9, hb9, h9⟩ := hx.at hlt
        cases e9
        exact ⟨h9, hb9⟩)
      obtain ⟨g, hg⟩ : ∃ g, g = fs[j]! := ⟨_, rfl⟩
      have HG := Lib.hid hg
      rw [← hg] at HLF
      clear hc hg
      have heq := fun w => eqlP (⟨p0, p1, p2, p3, p4, p5⟩ : P6) g w
      by_cases hfg : (⟨p0, p1, p2, p3, p4, p5⟩ : P6) = g
      · rw [decide_eq_true hfg] at heq
        have HQ := Lib.hid (hfg.symm)
        clear hfg
        obtain ⟨p0', p1', p2', p3', p4', p5'⟩ := g
        simp only [pC, kP] at heq
        skip
        go_upto_region 4 with fail
        refine wp_region_xH (by kernel_rfl) (by kernel_rfl) (by kernel_rfl) (by kernel_rfl) (fun _ => False) (H) ?_
        clear H; intro w2 H hz0 hs0
        try clear C
        try simp only [World.size_alloc, List.nil_append, List.cons_append, List.append_assoc] at H hz0
        clear hz0
        try clear wr
        have C := H.cells
        try simp only [cellsOf, cellsM, apartOf, apartM, and_true] at C
        have Z := H.zs
        try simp only [ltsOf, ltsM, and_true] at Z
        have hz0 := Nat.le_refl w2.heap.size
        obtain ⟨hcq, hbq⟩ := HLF.out _ (H.liesUp HL.out)
        have c0 : w2.cell? ⟨b, o + j * 6, none⟩ = some ((.int .i64 p0')) := hcq 0 _ rfl
        have c1 : w2.cell? ⟨b, o + j * 6 + 1, none⟩ = some ((.int .i64 p1')) := hcq 1 _ rfl
        have c2 : w2.cell? ⟨b, o + j * 6 + 2, none⟩ = some ((.int .i64 p2')) := hcq 2 _ rfl
        have c3 : w2.cell? ⟨b, o + j * 6 + 3, none⟩ = some ((.int .i64 p3')) := hcq 3 _ rfl
        have c4 : w2.cell? ⟨b, o + j * 6 + 4, none⟩ = some ((.int .i64 p4')) := hcq 4 _ rfl
        have c5 : w2.cell? ⟨b, o + j * 6 + 5, none⟩ = some ((.int .i64 p5')) := hcq 5 _ rfl
        clear hcq
        repeat (first | (refine wpX_skip rfl ?_; go_simp) | (refine wpX_free rfl rfl rfl (fun K hK => ?_); go_step; refine hK _ _ ?_; clear hK K) | (refine wpX_load rfl rfl rfl (by simp [Stay, OneD, NoD, *]) hs0 (by simp [*]) (fun K hK => ?_); go_step; refine hK _ _ ?_; clear hK K))
        (refine wpX_yield rfl rfl ((.bool true)) (fun w hw => by go_simp) ?_; go_simp)
        repeat (first | (refine wpX_skip rfl ?_; go_simp) | (refine wpX_free rfl rfl rfl (fun K hK => ?_); go_step; refine hK _ _ ?_; clear hK K) | (refine wpX_load rfl rfl rfl (by simp [Stay, OneD, NoD, *]) hs0 (by simp [*]) (fun K hK => ?_); go_step; refine hK _ _ ?_; clear hK K))
        (refine wpX_nil ?_; go_step)
        go_wp2_with fail
        go_ret
        exact ⟨_, rfl, .inr ⟨j, hlt, rfl, by rw [← HG.out]; exact HQ.out, HF.out⟩, H.done⟩
      · rw [decide_eq_false hfg] at heq
        have HQ := Lib.hid (show g ≠ (⟨p0, p1, p2, p3, p4, p5⟩ : P6) from fun h => hfg h.symm)
        clear hfg
        obtain ⟨p0', p1', p2', p3', p4', p5'⟩ := g
        simp only [pC, kP] at heq
        skip
        go_upto_region 4 with fail
        refine wp_region_xH (by kernel_rfl) (by kernel_rfl) (by kernel_rfl) (by kernel_rfl) (fun _ => False) (H) ?_
        clear H; intro w3 H hz0 hs0
        try clear C
        try simp only [World.size_alloc, List.nil_append, List.cons_append, List.append_assoc] at H hz0
        clear hz0
        try clear wr
        have C := H.cells
        try simp only [cellsOf, cellsM, apartOf, apartM, and_true] at C
        have Z := H.zs
        try simp only [ltsOf, ltsM, and_true] at Z
        have hz0 := Nat.le_refl w3.heap.size
        obtain ⟨hcq, hbq⟩ := HLF.out _ (H.liesUp HL.out)
        have c0 : w3.cell? ⟨b, o + j * 6, none⟩ = some ((.int .i64 p0')) := hcq 0 _ rfl
        have c1 : w3.cell? ⟨b, o + j * 6 + 1, none⟩ = some ((.int .i64 p1')) := hcq 1 _ rfl
        have c2 : w3.cell? ⟨b, o + j * 6 + 2, none⟩ = some ((.int .i64 p2')) := hcq 2 _ rfl
        have c3 : w3.cell? ⟨b, o + j * 6 + 3, none⟩ = some ((.int .i64 p3')) := hcq 3 _ rfl
        have c4 : w3.cell? ⟨b, o + j * 6 + 4, none⟩ = some ((.int .i64 p4')) := hcq 4 _ rfl
        have c5 : w3.cell? ⟨b, o + j * 6 + 5, none⟩ = some ((.int .i64 p5')) := hcq 5 _ rfl
        clear hcq
        repeat (first | (refine wpX_skip rfl ?_; go_simp) | (refine wpX_free rfl rfl rfl (fun K hK => ?_); go_step; refine hK _ _ ?_; clear hK K) | (refine wpX_load rfl rfl rfl (by simp [Stay, OneD, NoD, *]) hs0 (by simp [*]) (fun K hK => ?_); go_step; refine hK _ _ ?_; clear hK K))
        (refine wpX_yield rfl rfl ((.bool false)) (fun w hw => by go_simp) ?_; go_simp)
        repeat (first | (refine wpX_skip rfl ?_; go_simp) | (refine wpX_free rfl rfl rfl (fun K hK => ?_); go_step; refine hK _ _ ?_; clear hK K) | (refine wpX_load rfl rfl rfl (by simp [Stay, OneD, NoD, *]) hs0 (by simp [*]) (fun K hK => ?_); go_step; refine hK _ _ ?_; clear hK K))
        (refine wpX_nil ?_; go_step)
        go_wp2_with fail
        go_roundw
        case rel =>
          refine ⟨j + 1, by go_num, by omega, (show Hid _ from fun i hi => ?_), H⟩
          by_cases e : i = j
          · subst e; rw [← HG.out]; exact HQ.out
          · exact HF.out i (by omega)
        case measure => simp [intOf]; omega
    · skip
      go_wp2_with fail
      go_ret
      exact ⟨-1, rfl, .inl ⟨rfl, fun i hi => HF.out i (by omega)⟩, H.done⟩
theorem hasPl (f : P6) {sa : Option Addr} (c : Nat) {fs : List P6} (hx : fs.length ≤ 9223372036854775807) (w : World) (hl : Lies w w.heap.size sa 6 fs.length (fun j => pC fs[j]!)) :
    Calls Try.prog 46 #[.slice sa fs.length c, kP f] w (Gives (.bool (decide (f ∈ fs))) w) := by
  have HF := Lib.hid (fun wx hx9 => indexPl f (sa := sa) c hx wx hx9)
  have HL := Lib.hid hl
  clear hl
  obtain ⟨p0, p1, p2, p3, p4, p5⟩ := f
  replace HF := Lib.hid (fun wx hx9 => (show Calls Try.prog 64 #[.slice sa fs.length c, v6 p0 p1 p2 p3 p4 p5] wx (FindAtPl (⟨p0, p1, p2, p3, p4, p5⟩ : P6) fs wx) from HF.out wx hx9))
  show Calls Try.prog 46 #[.slice sa fs.length c, v6 p0 p1 p2 p3 p4 p5] w _
  go_enter Try.func46, Try.ntmps46
  have H := HS.start NoD w
  go_upto_region 1 with fail
  generalize hwb : w.alloc _ = w1
  replace H := HS.eqW hwb H.alloc
  try simp only [World.size_alloc, List.nil_append, List.cons_append, List.append_assoc] at H
  clear hwb
  generalize w.heap.size = bV at H ⊢
  try clear C
  have C := H.cells
  try simp only [cellsOf, cellsM, apartOf, apartM, and_true] at C
  go_wp2_with fail
  refine (HF.out _ (H.liesUp HL.out)).mono ?_
  rintro _ w2 ⟨r, rfl, hr, hb⟩
  replace H := H.below hb
  have HR := Lib.hid hr.mem
  clear hb HF hr
  skip
  try clear C
  try simp only [World.size_alloc, List.nil_append, List.cons_append, List.append_assoc] at H
  have C := H.cells
  try simp only [cellsOf, cellsM, apartOf, apartM, and_true] at C
  go_wp2_with fail
  go_ret
  exact ⟨by rw [← HR.out]; first | rfl | go_simp, H.done⟩
end Go.Proofs.Ytdhnpjgnnfgklaa
