/- Frames of memory: clones, with, check, Retire, Give; searches over uses. -/
import Derived.Test.YtedbpmckgiifpaaGreatC2
import Derived.Test.YtedbpmckgiifpaaGreatClo
namespace Go.Proofs.YtedbpmckgiifpaaGreat
set_option linter.unusedSimpArgs false
set_option linter.unusedVariables false
open Go.RowKit
set_option maxRecDepth 100000
attribute [local go_sem] lt_more ne_more ne_more'
attribute [local irreducible] wpX wpF Calls

theorem frC_one (xs : List Fr) : ∀ y ∈ xs.flatMap frC, y.oneCell' = true := fun y hy => by
  obtain ⟨x, _, h⟩ := List.mem_flatMap.1 hy
  simp only [frC, List.mem_cons, List.mem_nil_iff, or_false] at h
  rcases h with rfl | rfl <;> rfl
set_option maxHeartbeats 2000000 in
theorem cloneFr {sa : Option Addr} (c : Nat) {xs : List Fr} (hx : xs.length ≤ 1000) (h1 : ∀ u ∈ xs.flatMap frC, u.oneCell' = true) (w : World) (hl : Lies w w.heap.size sa 2 xs.length (fun j => frC xs[j]!)) :
    Calls Tryz.prog 20 #[.slice sa xs.length c] w (GivesS (fun v => v) 47 2 xs.length (xs.flatMap frC) w) := by
  obtain ⟨i, i1, i2, i3, i4⟩ := elemFr.hi
  have q22 : ∀ (w : World) (a : Option Addr) (n c n' c' : Nat), (binOp .eql 27 (.slice a n c) (.slice none n' c')).run Tryz.prog w = .ok (.bool a.isNone) w := fun w a n c n' c' => Lib.run_eql_slice_nil w _ _ a n c n' c' Tryz.underlying27
  by_cases hxs : xs = []
  · subst hxs
    clear hl
    cases sa with
    | none =>
      show Calls Tryz.prog 20 #[.slice none 0 c] w _
      go_enter Tryz.func20, Tryz.ntmps20
      have H := HS.start NoD w
      go_wp2_with fail
      go_ret
      exact ⟨none, 0, rfl, World.ownsRow_nil _ _ _ _, H.done⟩
    | some a =>
      show Calls Tryz.prog 20 #[.slice (some a) 0 c] w _
      go_enter Tryz.func20, Tryz.ntmps20
      have H := HS.start NoD w
      go_wp2_with fail
      go_ret
      exact ⟨_, _, rfl, World.ownsRow_made w #[] 0 (Nat.le_refl _) (Nat.zero_le _) rfl, H.alloc.done⟩
  · have hpos : 0 < xs.length := List.length_pos_iff.2 hxs
    obtain ⟨b, o, rfl, hb, -⟩ := hl.at hpos
    have HC := Lib.hid (Lies.flat frC_len (by decide) hl)
    have H1 := Lib.hid h1
    clear hl h1
    go_enter Tryz.func20, Tryz.ntmps20
    have H := HS.start NoD w
    go_upto_region 3 with fail
    go_wp2_with (at_builtin; refine wpList_append_lies _ rfl (.tmp 5) (.tmp 6) 27 rfl w.heap.size 47 i _ 2 16 elemFr.ht i1 i2 i3 i4 elemFr.hzs elemFr.pos _ 0 [] rfl (World.ownsRow_made w #[] 0 (Nat.le_refl _) (Nat.zero_le _) rfl) ⟨b, o, none⟩ xs.length c (xs.flatMap frC) rfl (flat_len frC_len xs) (fun j u hu => by rw [Addr.add_lit]; exact (((Below.refl _ _).alloc (Nat.le_refl _) _).cell (p := ⟨b, o + j, none⟩) hb).trans (HC.out j u hu)) H1.out hpos (by unfold maxLen; omega) (by omega) (by simp) _ rfl (fun g cap wz h2 h3 h4 h5 => ?_))
    go_ret
    exact ⟨_, _, rfl, by simpa using h2, ((Below.refl _ w).alloc (Nat.le_refl _) _).grown h3 (by simp) (by intro k hk; simp [Act.eval, Value.ownBlock] at hk; omega)⟩
/-- What a search over a slice by a test hands back. -/
def FindPostUs (p : (Int × Int) → Bool) (xs : List (Int × Int)) (w : World) (e : Ending) (w' : World) : Prop :=
  ∃ r : Int, e = .returned (.int .i64 r) ∧ ((r = -1 ∧ ∀ i, i < xs.length → p xs[i]! = false) ∨ ∃ i : Nat, i < xs.length ∧ r = i ∧ p xs[i]! = true ∧ ∀ j, j < i → p xs[j]! = false) ∧ Below w.heap.size w w'
/-- The closure g with the captured addresses lb answers by p. -/
def AsksUs (g : Nat) (lb : Array Value) (p : (Int × Int) → Bool) (w : World) : Prop := ∀ W x, Below w.heap.size w W → Calls Tryz.prog g (#[.agg (uC x).toArray] ++ lb) W (Gives (.bool (p x)) W)
set_option maxHeartbeats 2000000 in
theorem findUs (g : Nat) (eg : ∀ args w, (callFunc g args).run Tryz.prog w = .ok (.enter g args) w) (lb : Array Value) (p : (Int × Int) → Bool) {sa : Option Addr} (c : Nat) {xs : List (Int × Int)} (hx : xs.length ≤ 100000) (w : World) (hl : Lies w w.heap.size sa 2 xs.length (fun j => uC xs[j]!)) (hp : AsksUs g lb p w) :
    Calls Tryz.prog 90 #[.slice sa xs.length c, .func (.func g) #[] lb] w (FindPostUs p xs w) := by
  have HL := Lib.hid hl
  have HP := Lib.hid hp
  clear hl hp
  go_enter Tryz.func90, Tryz.ntmps90
  have H := HS.start NoD w
  go_wp2_with fail
  go_loopw [5, 8] (fun _ i wr => ∃ (j : Nat), i = .int .i64 j ∧ j ≤ xs.length ∧ Hid (∀ i, i < j → p xs[i]! = false) ∧ HS NoD w [] wr) (fun _ i _ => xs.length - (intOf i).toNat)
  case atStart => exact ⟨0, rfl, Nat.zero_le _, fun i hi => absurd hi (Nat.not_lt_zero _), H⟩
  case round =>
    clear H
    obtain ⟨j, rfl, hj, HF, H⟩ := hrel
    skip
    by_cases hlt : j < xs.length
    · obtain ⟨b, o, rfl, hb, hc⟩ := (H.lies HL.out).at hlt
      have hcall := Lib.hid (fun (b : Bool) (e : p xs[j]! = b) => by have := HP.out wr xs[j]! H.done; rw [e] at this; exact this)
      obtain ⟨x, hxj⟩ : ∃ x, x = xs[j]! := ⟨_, rfl⟩
      rw [← hxj] at hc hcall
      have c0 : wr.cell? ⟨b, o + j * 2, none⟩ = _ := hc 0 _ rfl
      have c1 : wr.cell? ⟨b, o + j * 2 + 1, none⟩ = _ := hc 1 _ rfl
      have HX := Lib.hid hxj
      clear hc hxj
      cases hq : p x with
      | true =>
        have HQ := Lib.hid hq
        have hca := hcall.out _ hq
        clear hq hcall
        go_wp2_with fail
        refine hca.mono ?_
        rintro _ w1 ⟨rfl, hb1⟩
        clear hca
        go_wp2_with fail
        go_ret
        exact ⟨_, rfl, .inr ⟨j, hlt, rfl, by rw [← HX.out]; exact HQ.out, HF.out⟩, (H.below hb1).done⟩
      | false =>
        have HQ := Lib.hid hq
        have hca := hcall.out _ hq
        clear hq hcall
        go_wp2_with fail
        refine hca.mono ?_
        rintro _ w1 ⟨rfl, hb1⟩
        clear hca
        go_wp2_with fail
        go_roundw
        case rel =>
          refine ⟨j + 1, by go_num, by omega, (show Hid _ from fun i hi => ?_), H.below hb1⟩
          by_cases e : i = j
          · subst e; rw [← HX.out]; exact HQ.out
          · exact HF.out i (by omega)
        case measure => simp [intOf]; omega
    · go_wp2_with fail
      go_ret
      exact ⟨-1, rfl, .inl ⟨rfl, fun i hi => HF.out i (by omega)⟩, H.done⟩
theorem any_ofUs {p : (Int × Int) → Bool} {xs : List (Int × Int)} {r : Int} (h : (r = -1 ∧ ∀ i, i < xs.length → p xs[i]! = false) ∨ ∃ i : Nat, i < xs.length ∧ r = i ∧ p xs[i]! = true ∧ ∀ j, j < i → p xs[j]! = false) : decide (0 ≤ r) = xs.any p := by
  rcases h with ⟨rfl, h⟩ | ⟨i, hi, rfl, h, -⟩
  · symm
    rw [show decide ((0 : Int) ≤ -1) = false from rfl, List.any_eq_false]
    intro x hx
    obtain ⟨i, hi, rfl⟩ := List.getElem_of_mem hx
    have := h i hi
    rw [getElem!_pos xs i hi] at this
    simp [this]
  · symm
    rw [show decide ((0 : Int) ≤ (i : Int)) = true by simp, List.any_eq_true]
    exact ⟨xs[i]!, by rw [getElem!_pos xs i hi]; exact List.getElem_mem _, h⟩
theorem containsUs (g : Nat) (eg : ∀ args w, (callFunc g args).run Tryz.prog w = .ok (.enter g args) w) (lb : Array Value) (p : (Int × Int) → Bool) {sa : Option Addr} (c : Nat) {xs : List (Int × Int)} (hx : xs.length ≤ 100000) (w : World) (hl : Lies w w.heap.size sa 2 xs.length (fun j => uC xs[j]!)) (hp : AsksUs g lb p w) :
    Calls Tryz.prog 81 #[.slice sa xs.length c, .func (.func g) #[] lb] w (Gives (.bool (xs.any p)) w) := by
  have hf := Lib.hid (findUs g eg lb p c hx w hl hp)
  clear hl hp
  go_enter Tryz.func81, Tryz.ntmps81
  have H := HS.start NoD w
  go_wp2_with fail
  refine (hf.out).mono ?_
  rintro _ w1 ⟨r, rfl, hr, hb⟩
  replace H := H.below hb
  clear hb
  try clear C
  try simp only [World.size_alloc, List.nil_append, List.cons_append, List.append_assoc] at H
  have C := H.cells
  try simp only [cellsOf, cellsM, apartOf, apartM, and_true] at C
  dsimp only
  go_wp2_with fail
  go_ret
  exact ⟨by rw [← any_ofUs hr]; rfl, H.done⟩

/-- Frames, and an error. -/
def GivesFE (R : Int × List Fr) (w : World) (x : Ending) (w' : World) : Prop := GivesS (fun v => .tuple #[v, .int .i64 R.1]) 47 2 R.2.length (R.2.flatMap frC) w x w'
theorem givesFE_nil {w w' : World} {L : List Item} (H : HS NoD w L w') (e : Int) : GivesFE (e, []) w (.returned (.tuple #[.slice none 0 0, .int .i64 e])) w' :=
  (H.nilRow 47 2).givesS L.length (by simp)
set_option maxHeartbeats 4000000 in
theorem fwith_any {F : List Fr} (hF : F.length ≤ 1000) (k : Nat) (hk : k < F.length) (x : Fr) {sa : Option Addr} (c : Nat) (w : World) (hl : Lies w w.heap.size sa 2 F.length (fun j => frC F[j]!)) :
    Calls Tryz.prog 68 #[.slice sa F.length c, .int .i64 k, .agg #[.int .i64 x.st, .int .i64 x.bl]] w (GivesS (fun v => v) 47 2 F.length ((F.set k x).flatMap frC) w) := by
  obtain ⟨s, b⟩ := x
  have HCL := Lib.hid (fun w hl => cloneFr (sa := sa) c hF (frC_one F) w hl)
  have HL := Lib.hid hl
  clear hl
  have hfl := Lib.hid (flat_setFr hk ⟨s, b⟩)
  dsimp only at hfl ⊢
  go_enter Tryz.func68, Tryz.ntmps68
  have H := HS.start NoD w
  go_upto_region 1 with fail
  generalize hwb : w.alloc _ = w1
  replace H := HS.eqW hwb H.alloc
  try simp only [World.size_alloc, List.nil_append, List.cons_append, List.append_assoc] at H
  clear hwb
  generalize w.heap.size = bX at H ⊢
  try clear C
  have C := H.cells
  try simp only [cellsOf, cellsM, apartOf, apartM, and_true] at C
  go_wp2_with fail
  refine (HCL.out _ (H.liesUp HL.out)).mono ?_
  rintro _ w2 ⟨s1, d1, rfl, hr, hb⟩
  replace H := (H).getsRow hb hr
  clear hb hr
  try clear C
  try simp only [World.size_alloc, List.nil_append, List.cons_append, List.append_assoc] at H
  try clear w1
  have C := H.cells
  try simp only [cellsOf, cellsM, apartOf, apartM, and_true] at C
  dsimp only
  clear HCL
  obtain ⟨g, rfl, hg, hcap⟩ := ownsRow_ptr (H.at 1 rfl) (by omega)
  have c0 : w2.cell? ⟨g, k * 2, none⟩ = some (.int .i64 (F[k]!).st) ∧ w2.frozen? ⟨g, k * 2, none⟩ = false := by
    have h1 := H.rowCells 1 rfl (k * 2) (by omega)
    exact ⟨h1.1.trans (flat_get frC_len F k 0 (.int .i64 (F[k]!).st) hk rfl), h1.2⟩
  have c1 : w2.cell? ⟨g, k * 2 + 1, none⟩ = some (.int .i64 (F[k]!).bl) ∧ w2.frozen? ⟨g, k * 2 + 1, none⟩ = false := by
    have h1 := H.rowCells 1 rfl (k * 2 + 1) (by omega)
    exact ⟨h1.1.trans (flat_get frC_len F k 1 (.int .i64 (F[k]!).bl) hk rfl), h1.2⟩
  obtain ⟨c0, c0f⟩ := c0
  obtain ⟨c1, c1f⟩ := c1
  clear hg
  go_wp2_with fail
  clear c0 c0f c1 c1f
  generalize hwb : World.setCell _ _ _ = w5
  have H9 := HS.eqW hwb ((H.rowSet 1 rfl (k * 2) (.int .i64 s)).rowSet 1 rfl (k * 2 + 1) (.int .i64 b))
  clear hwb H
  simp only [List.set_cons_succ, List.set_cons_zero] at H9
  rw [hfl.out] at H9
  go_wp2_with fail
  go_ret
  exact H9.givesS 1 rfl
def checkP (F : List Fr) (f : Int) : Int := if f < 0 ∨ (F.length : Int) ≤ f then 43 else 0
theorem fcheck_any {F : List Fr} (hF : FrV F) (f : Int) {sa : Option Addr} (c : Nat) (w : World) (hl : Lies w w.heap.size sa 2 F.length (fun j => frC F[j]!)) :
    Calls Tryz.prog 67 #[.slice sa F.length c, .int .i64 f] w (Gives (.int .i64 (checkP F f)) w) := by
  have HV := Lib.hid (fvalid_any hF c w hl)
  clear hl hF
  by_cases h1 : f < 0
  · rw [show checkP F f = 43 by unfold checkP; rw [if_pos (.inl h1)]]
    go_enter Tryz.func67, Tryz.ntmps67
    have H := HS.start NoD w
    go_wp2_with fail
    refine (HV.out).mono ?_
    rintro _ w1 ⟨rfl, hb⟩
    replace H := H.below hb
    clear hb
    try clear C
    try simp only [World.size_alloc, List.nil_append, List.cons_append, List.append_assoc] at H
    have C := H.cells
    try simp only [cellsOf, cellsM, apartOf, apartM, and_true] at C
    dsimp only
    go_wp2_with fail
    go_ret
    exact ⟨rfl, H.done⟩
  by_cases h2 : (F.length : Int) ≤ f
  · rw [show checkP F f = 43 by unfold checkP; rw [if_pos (.inr h2)]]
    go_enter Tryz.func67, Tryz.ntmps67
    have H := HS.start NoD w
    go_wp2_with fail
    refine (HV.out).mono ?_
    rintro _ w1 ⟨rfl, hb⟩
    replace H := H.below hb
    clear hb
    try clear C
    try simp only [World.size_alloc, List.nil_append, List.cons_append, List.append_assoc] at H
    have C := H.cells
    try simp only [cellsOf, cellsM, apartOf, apartM, and_true] at C
    dsimp only
    go_wp2_with fail
    go_ret
    exact ⟨rfl, H.done⟩
  rw [show checkP F f = 0 by unfold checkP; rw [if_neg (by omega)]]
  go_enter Tryz.func67, Tryz.ntmps67
  have H := HS.start NoD w
  go_wp2_with fail
  refine (HV.out).mono ?_
  rintro _ w1 ⟨rfl, hb⟩
  replace H := H.below hb
  clear hb
  try clear C
  try simp only [World.size_alloc, List.nil_append, List.cons_append, List.append_assoc] at H
  have C := H.cells
  try simp only [cellsOf, cellsM, apartOf, apartM, and_true] at C
  dsimp only
  go_wp2_with fail
  go_ret
  exact ⟨rfl, H.done⟩
def occB (s : Int) : Bool := decide (1 ≤ s) && decide (s ≤ 4)
theorem occ_any (s : Int) (w : World) : Calls Tryz.prog 85 #[.int .i64 s] w (Gives (.bool (occB s)) w) := by
  by_cases h1 : 1 ≤ s
  · by_cases h2 : s ≤ 4
    all_goals
      go_enter Tryz.func85, Tryz.ntmps85
      have H := HS.start NoD w
      go_wp2_with fail
      go_ret
      exact ⟨by unfold occB; simp [h1, h2] <;> omega, H.done⟩
  · go_enter Tryz.func85, Tryz.ntmps85
    have H := HS.start NoD w
    go_wp2_with fail
    go_ret
    exact ⟨by unfold occB; simp [h1] <;> omega, H.done⟩
def retireP (F : List Fr) (f : Int) : Int × List Fr :=
  if f < 0 ∨ (F.length : Int) ≤ f then (43, []) else if (F[f.toNat]!).st = 4 ∨ (F[f.toNat]!).st = 5 then (40, []) else (0, F.set f.toNat ⟨5, 0⟩)
def giveP (F : List Fr) (f : Int) : Int × List Fr :=
  if f < 0 ∨ (F.length : Int) ≤ f then (43, []) else if occB (F[f.toNat]!).st = false then (40, []) else (0, F.set f.toNat ⟨0, 0⟩)
set_option maxHeartbeats 4000000 in
theorem fretire_any {F : List Fr} (hF : FrV F) (f : Int) {sa : Option Addr} (c : Nat) (w : World) (hl : Lies w w.heap.size sa 2 F.length (fun j => frC F[j]!)) :
    Calls Tryz.prog 45 #[.slice sa F.length c, .int .i64 f] w (GivesFE (retireP F f) w) := by
  have HCK := Lib.hid (fcheck_any hF f c w hl)
  by_cases h0 : f < 0 ∨ (F.length : Int) ≤ f
  · have e1 : checkP F f = 43 := by unfold checkP; rw [if_pos h0]
    have e2 : retireP F f = (43, []) := by unfold retireP; rw [if_pos h0]
    rw [e1] at HCK
    rw [e2]
    clear hl hF h0 e1 e2
    go_enter Tryz.func45, Tryz.ntmps45
    have H := HS.start NoD w
    go_wp2_with fail
    refine (HCK.out).mono ?_
    rintro _ w1 ⟨rfl, hb⟩
    replace H := H.below hb
    clear hb
    try clear C
    try simp only [World.size_alloc, List.nil_append, List.cons_append, List.append_assoc] at H
    have C := H.cells
    try simp only [cellsOf, cellsM, apartOf, apartM, and_true] at C
    dsimp only
    go_wp2_with fail
    refine bodyPost_ret (by simp [results, Tryz.results45, go_sem, C]; try rfl) rfl ?_
    exact givesFE_nil H 43
  have e1 : checkP F f = 0 := by unfold checkP; rw [if_neg h0]
  rw [e1] at HCK
  clear e1
  obtain ⟨k, rfl⟩ : ∃ k : Nat, f = k := ⟨f.toNat, by omega⟩
  have hk : k < F.length := by omega
  have hF2 := hF.high
  obtain ⟨R, hR⟩ : ∃ R, R = retireP F k := ⟨_, rfl⟩
  have hRS := hR
  rw [← hR]
  clear hR
  unfold retireP at hRS
  rw [if_neg h0] at hRS
  clear h0
  obtain ⟨s, hs⟩ : ∃ s, s = (F[k]!).st := ⟨_, rfl⟩
  rw [show (F[((k : Nat) : Int).toNat]!).st = s from hs.symm, show ((k : Nat) : Int).toNat = k from rfl] at hRS
  obtain ⟨b, o, rfl, hb, hc⟩ := hl.at hk
  have hc0 : w.cell? ⟨b, o + k * 2, none⟩ = some (.int .i64 s) := by rw [hs]; exact hc 0 _ rfl
  have HC0 := Lib.hid hc0
  have HB := Lib.hid hb
  have HL := Lib.hid hl
  clear hs hc hc0 hb hl hF
  by_cases h4 : s = 4
  · subst h4
    rw [if_pos (.inl rfl)] at hRS
    subst hRS
    go_enter Tryz.func45, Tryz.ntmps45
    have H := HS.start NoD w
    go_wp2_with fail
    refine (HCK.out).mono ?_
    rintro _ w1 ⟨rfl, hb⟩
    replace H := H.below hb
    clear hb
    try clear C
    try simp only [World.size_alloc, List.nil_append, List.cons_append, List.append_assoc] at H
    have C := H.cells
    try simp only [cellsOf, cellsM, apartOf, apartM, and_true] at C
    dsimp only
    have c0 : w1.cell? ⟨b, o + k * 2, none⟩ = some (.int .i64 4) := (H.was (p := ⟨b, o + k * 2, none⟩) HB.out id).trans HC0.out
    go_wp2_with fail
    refine bodyPost_ret (by simp [results, Tryz.results45, go_sem, C]; try rfl) rfl ?_
    exact givesFE_nil H 40
  have h4b : (s == 4) = false := beq_eq_false_iff_ne.2 h4
  by_cases h5 : s = 5
  · subst h5
    rw [if_pos (.inr rfl)] at hRS
    subst hRS
    go_enter Tryz.func45, Tryz.ntmps45
    have H := HS.start NoD w
    go_wp2_with fail
    refine (HCK.out).mono ?_
    rintro _ w1 ⟨rfl, hb⟩
    replace H := H.below hb
    clear hb
    try clear C
    try simp only [World.size_alloc, List.nil_append, List.cons_append, List.append_assoc] at H
    have C := H.cells
    try simp only [cellsOf, cellsM, apartOf, apartM, and_true] at C
    dsimp only
    have c0 : w1.cell? ⟨b, o + k * 2, none⟩ = some (.int .i64 5) := (H.was (p := ⟨b, o + k * 2, none⟩) HB.out id).trans HC0.out
    go_wp2_with fail
    refine bodyPost_ret (by simp [results, Tryz.results45, go_sem, C]; try rfl) rfl ?_
    exact givesFE_nil H 40
  have h5b : (s == 5) = false := beq_eq_false_iff_ne.2 h5
  rw [if_neg (fun h => h.elim h4 h5)] at hRS
  subst hRS
  go_enter Tryz.func45, Tryz.ntmps45
  have H := HS.start NoD w
  go_wp2_with fail
  refine (HCK.out).mono ?_
  rintro _ w1 ⟨rfl, hb⟩
  replace H := H.below hb
  clear hb
  try clear C
  try simp only [World.size_alloc, List.nil_append, List.cons_append, List.append_assoc] at H
  have C := H.cells
  try simp only [cellsOf, cellsM, apartOf, apartM, and_true] at C
  dsimp only
  have c0 : w1.cell? ⟨b, o + k * 2, none⟩ = some (.int .i64 s) := (H.was (p := ⟨b, o + k * 2, none⟩) HB.out id).trans HC0.out
  go_wp2_with fail
  refine (fwith_any (by omega) k hk ⟨5, 0⟩ c _ (H.liesUp HL.out)).mono ?_
  rintro _ w2 ⟨s1, d1, rfl, hr, hb⟩
  replace H := (H).getsRow hb hr
  clear hb hr
  try clear C
  try simp only [World.size_alloc, List.nil_append, List.cons_append, List.append_assoc] at H
  try clear w1
  have C := H.cells
  try simp only [cellsOf, cellsM, apartOf, apartM, and_true] at C
  dsimp only
  go_wp2_with fail
  refine bodyPost_ret (by simp [results, Tryz.results45, go_sem, C]; try rfl) rfl ?_
  unfold GivesFE
  dsimp only
  rw [List.length_set]
  exact H.givesS (mk := fun v => .tuple #[v, .int .i64 0]) 0 rfl
set_option maxHeartbeats 4000000 in
theorem fgive_any {F : List Fr} (hF : FrV F) (f : Int) {sa : Option Addr} (c : Nat) (w : World) (hl : Lies w w.heap.size sa 2 F.length (fun j => frC F[j]!)) :
    Calls Tryz.prog 73 #[.slice sa F.length c, .int .i64 f] w (GivesFE (giveP F f) w) := by
  have HCK := Lib.hid (fcheck_any hF f c w hl)
  by_cases h0 : f < 0 ∨ (F.length : Int) ≤ f
  · have e1 : checkP F f = 43 := by unfold checkP; rw [if_pos h0]
    have e2 : giveP F f = (43, []) := by unfold giveP; rw [if_pos h0]
    rw [e1] at HCK
    rw [e2]
    clear hl hF h0 e1 e2
    go_enter Tryz.func73, Tryz.ntmps73
    have H := HS.start NoD w
    go_wp2_with fail
    refine (HCK.out).mono ?_
    rintro _ w1 ⟨rfl, hb⟩
    replace H := H.below hb
    clear hb
    try clear C
    try simp only [World.size_alloc, List.nil_append, List.cons_append, List.append_assoc] at H
    have C := H.cells
    try simp only [cellsOf, cellsM, apartOf, apartM, and_true] at C
    dsimp only
    go_wp2_with fail
    refine bodyPost_ret (by simp [results, Tryz.results73, go_sem, C]; try rfl) rfl ?_
    exact givesFE_nil H 43
  have e1 : checkP F f = 0 := by unfold checkP; rw [if_neg h0]
  rw [e1] at HCK
  clear e1
  obtain ⟨k, rfl⟩ : ∃ k : Nat, f = k := ⟨f.toNat, by omega⟩
  have hk : k < F.length := by omega
  have hF2 := hF.high
  obtain ⟨R, hR⟩ : ∃ R, R = giveP F k := ⟨_, rfl⟩
  have hRS := hR
  rw [← hR]
  clear hR
  unfold giveP at hRS
  rw [if_neg h0] at hRS
  clear h0
  obtain ⟨s, hs⟩ : ∃ s, s = (F[k]!).st := ⟨_, rfl⟩
  rw [show (F[((k : Nat) : Int).toNat]!).st = s from hs.symm, show ((k : Nat) : Int).toNat = k from rfl] at hRS
  obtain ⟨b, o, rfl, hb, hc⟩ := hl.at hk
  have hc0 : w.cell? ⟨b, o + k * 2, none⟩ = some (.int .i64 s) := by rw [hs]; exact hc 0 _ rfl
  have HC0 := Lib.hid hc0
  have HB := Lib.hid hb
  have HL := Lib.hid hl
  clear hs hc hc0 hb hl hF
  have HOC := Lib.hid (fun w => occ_any s w)
  cases ho : occB s with
  | false =>
    rw [ho] at HOC hRS
    rw [if_pos rfl] at hRS
    subst hRS
    go_enter Tryz.func73, Tryz.ntmps73
    have H := HS.start NoD w
    go_wp2_with fail
    refine (HCK.out).mono ?_
    rintro _ w1 ⟨rfl, hb⟩
    replace H := H.below hb
    clear hb
    try clear C
    try simp only [World.size_alloc, List.nil_append, List.cons_append, List.append_assoc] at H
    have C := H.cells
    try simp only [cellsOf, cellsM, apartOf, apartM, and_true] at C
    dsimp only
    have c0 : w1.cell? ⟨b, o + k * 2, none⟩ = some (.int .i64 s) := (H.was (p := ⟨b, o + k * 2, none⟩) HB.out id).trans HC0.out
    go_wp2_with fail
    clear c0
    refine (HOC.out _).mono ?_
    rintro _ w2 ⟨rfl, hb⟩
    replace H := H.below hb
    clear hb
    try clear C
    try simp only [World.size_alloc, List.nil_append, List.cons_append, List.append_assoc] at H
    try clear w1
    have C := H.cells
    try simp only [cellsOf, cellsM, apartOf, apartM, and_true] at C
    dsimp only
    go_wp2_with fail
    refine bodyPost_ret (by simp [results, Tryz.results73, go_sem, C]; try rfl) rfl ?_
    exact givesFE_nil H 40
  | true =>
    rw [ho] at HOC hRS
    rw [if_neg (by decide)] at hRS
    subst hRS
    go_enter Tryz.func73, Tryz.ntmps73
    have H := HS.start NoD w
    go_wp2_with fail
    refine (HCK.out).mono ?_
    rintro _ w1 ⟨rfl, hb⟩
    replace H := H.below hb
    clear hb
    try clear C
    try simp only [World.size_alloc, List.nil_append, List.cons_append, List.append_assoc] at H
    have C := H.cells
    try simp only [cellsOf, cellsM, apartOf, apartM, and_true] at C
    dsimp only
    have c0 : w1.cell? ⟨b, o + k * 2, none⟩ = some (.int .i64 s) := (H.was (p := ⟨b, o + k * 2, none⟩) HB.out id).trans HC0.out
    go_wp2_with fail
    clear c0
    refine (HOC.out _).mono ?_
    rintro _ w2 ⟨rfl, hb⟩
    replace H := H.below hb
    clear hb
    try clear C
    try simp only [World.size_alloc, List.nil_append, List.cons_append, List.append_assoc] at H
    try clear w1
    have C := H.cells
    try simp only [cellsOf, cellsM, apartOf, apartM, and_true] at C
    dsimp only
    go_wp2_with fail
    refine (fwith_any (by omega) k hk ⟨0, 0⟩ c _ (H.liesUp HL.out)).mono ?_
    rintro _ w3 ⟨s1, d1, rfl, hr, hb⟩
    replace H := (H).getsRow hb hr
    clear hb hr
    try clear C
    try simp only [World.size_alloc, List.nil_append, List.cons_append, List.append_assoc] at H
    try clear w2
    have C := H.cells
    try simp only [cellsOf, cellsM, apartOf, apartM, and_true] at C
    dsimp only
    go_wp2_with fail
    refine bodyPost_ret (by simp [results, Tryz.results73, go_sem, C]; try rfl) rfl ?_
    unfold GivesFE
    dsimp only
    rw [List.length_set]
    exact H.givesS (mk := fun v => .tuple #[v, .int .i64 0]) 0 rfl
end Go.Proofs.YtedbpmckgiifpaaGreat
