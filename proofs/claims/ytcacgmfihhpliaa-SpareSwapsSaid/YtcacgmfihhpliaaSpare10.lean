/- Package spare: no swaps yet; an index out of range; mill.Shape; the sanity check of the statements about spares. -/
import Derived.Test.YtcacgmfihhpliaaSpare9
import Derived.Test.YtcacgmfihhpliaaRef4
import Derived.Test.YtcacgmfihhpliaaRef5
import Derived.Test.YtcacgmfihhpliaaShape
namespace Go.Proofs.Ytcacgmfihhpliaa
set_option linter.unusedSimpArgs false
set_option linter.unusedVariables false
open Go.RowKit
set_option maxRecDepth 100000
attribute [local go_sem] lt_more ne_more ne_more'
attribute [local irreducible] wpX wpF Calls

theorem at_pv {a0 a1 a2 a3 a4 a5 i : Int} (h : SV a0 a1 a2 a3 a4 a5) (hi0 : 0 ≤ i) (hi1 : i < 2 ^ (a0 + a1 + a2 + a3 + a4 + a5).toNat) :
    PV a0 a1 a2 a3 a4 a5 (atF a0 a1 a2 a3 a4 a5 i).a (atF a0 a1 a2 a3 a4 a5 i).b (atF a0 a1 a2 a3 a4 a5 i).c (atF a0 a1 a2 a3 a4 a5 i).d (atF a0 a1 a2 a3 a4 a5 i).e (atF a0 a1 a2 a3 a4 a5 i).f ∧
    idx a1 a2 a3 a4 a5 (atF a0 a1 a2 a3 a4 a5 i).a (atF a0 a1 a2 a3 a4 a5 i).b (atF a0 a1 a2 a3 a4 a5 i).c (atF a0 a1 a2 a3 a4 a5 i).d (atF a0 a1 a2 a3 a4 a5 i).e (atF a0 a1 a2 a3 a4 a5 i).f = i := by
  obtain ⟨_, _, _, _, _, _, _, _, _, _, _, _, hall⟩ := atF_steps h hi0 hi1
  exact ⟨hall.place, hall.index⟩
theorem at_of_idx {a0 a1 a2 a3 a4 a5 p0 p1 p2 p3 p4 p5 : Int} (h : SV a0 a1 a2 a3 a4 a5) (hp : PV a0 a1 a2 a3 a4 a5 p0 p1 p2 p3 p4 p5) : atF a0 a1 a2 a3 a4 a5 (idx a1 a2 a3 a4 a5 p0 p1 p2 p3 p4 p5) = ⟨p0, p1, p2, p3, p4, p5⟩ := by
  have hin := idx_in h hp
  obtain ⟨_, _, _, _, _, _, _, _, _, _, _, _, hh⟩ := atF_steps h hin.1 hin.2
  obtain ⟨e0, e1, e2, e3, e4, e5⟩ := idx_inj hh.place hp hh.index
  have key : ∀ q : P6, q.a = p0 → q.b = p1 → q.c = p2 → q.d = p3 → q.e = p4 → q.f = p5 → q = ⟨p0, p1, p2, p3, p4, p5⟩ := by
    rintro ⟨_, _, _, _, _, _⟩ rfl rfl rfl rfl rfl rfl; rfl
  exact key _ e0 e1 e2 e3 e4 e5
theorem rat_is {a0 a1 a2 a3 a4 a5 i : Int} (h : SV a0 a1 a2 a3 a4 a5) (hi0 : 0 ≤ i) (hi1 : i < 2 ^ (a0 + a1 + a2 + a3 + a4 + a5).toNat) (w : World) :
    Calls Try.prog 38 #[v6 a0 a1 a2 a3 a4 a5, .int .i64 i] w (Gives (.tuple #[v6P (atF a0 a1 a2 a3 a4 a5 i), .int .i64 0]) w) := by
  obtain ⟨x1, x2, x3, x4, x5, x6, h5, h4, h3, h2, h1, h0, hall⟩ := atF_steps h hi0 hi1
  exact rat_yes h hi0 hi1 h5 h4 h3 h2 h1 h0 w
theorem SpV.nil {a0 a1 a2 a3 a4 a5 n : Int} (h : SV a0 a1 a2 a3 a4 a5) (hn : 0 ≤ n ∧ n < rwz a4) (c : Nat) : SpV a0 a1 a2 a3 a4 a5 n [] c := ⟨h, hn, Nat.zero_le _, Nat.zero_le _, rfl⟩
/-- Turn, of a word that is not there. -/
theorem turn_out {a0 a1 a2 a3 a4 a5 n i : Int} {xs : List S8} {c : Nat} (h : SpV a0 a1 a2 a3 a4 a5 n xs c) (hi : ¬ (0 ≤ i ∧ i < 2 ^ (a0 + a1 + a2 + a3 + a4 + a5).toNat)) {sa : Option Addr} (w : World) (hl : Lies w w.heap.size sa 8 xs.length (fun j => sC xs[j]!)) :
    Calls Try.prog 32 #[vSp a0 a1 a2 a3 a4 a5 n (.slice sa xs.length c), .int .i64 i] w (Gives (.tuple #[.int .i64 0, .int .i64 2]) w) := by
  have HL := Lib.hid hl
  clear hl
  have HV := Lib.hid (fun w hl => h.valid (sa := sa) w hl)
  have HA := Lib.hid (fun w => at_out h.sv hi w)
  clear hi
  go_enter Try.func32, Try.ntmps32
  have H := HS.start NoD w
  go_wp2_with fail
  refine (HV.out _ (H.alloc.liesUp HL.out)).mono ?_
  rintro _ w1 ⟨rfl, hb⟩
  replace H := H.alloc.below hb
  clear hb
  try clear C
  try simp only [World.size_alloc, List.nil_append, List.cons_append, List.append_assoc] at H
  generalize w.heap.size = bX at H ⊢
  have C := H.cells
  try simp only [cellsOf, apartOf, and_true] at C
  dsimp only
  go_wp2_with fail
  refine (HA.out _).mono ?_
  rintro _ w2 ⟨rfl, hb⟩
  replace H := H.below hb
  clear hb
  try clear C
  try simp only [World.size_alloc, List.nil_append, List.cons_append, List.append_assoc] at H
  try clear w1
  have C := H.cells
  try simp only [cellsOf, apartOf, and_true] at C
  dsimp only
  go_wp2_with fail
  go_ret2
  exact ⟨rfl, by first | exact H.done | exact H.skipAlloc.done⟩
theorem ownsRow_ptr {w : World} {B k n c : Nat} {e : TypeId} {sa : Option Addr} {cs : List Value} (h : w.ownsRow B e k (.slice sa n c) n cs) (hn : 0 < n) : ∃ g, sa = some ⟨g, 0, none⟩ ∧ g < w.heap.size ∧ n ≤ c := by
  rcases h.2 with ⟨h2, h3⟩ | ⟨g, cap, cur, hv, hg, hh, r⟩
  · omega
  · injection hv with e1 e2 e3
    subst e3
    exact ⟨g, e1, lt_of_heap hh, r.1⟩
/-- What mill.Shape makes. -/
structure MS (s0 s1 s2 s4 : Int) : Prop where
  h0 : 0 ≤ s0 ∧ s0 < 2
  h1 : 0 ≤ s1 ∧ s1 < 2
  h2 : 0 ≤ s2 ∧ s2 < 2
  h4 : 1 ≤ s4 ∧ s4 ≤ 3
theorem MS.sv {s0 s1 s2 s4 : Int} (h : MS s0 s1 s2 s4) : SV s0 s1 s2 1 s4 2 := by
  obtain ⟨h0, h1, h2, h4⟩ := h
  constructor <;> omega
def MSPost (B b : Nat) (w : World) (e : Ending) (w' : World) : Prop :=
  ∃ s0 s1 s2 s4, e = .returned (v6 s0 s1 s2 1 s4 2) ∧ MS s0 s1 s2 s4 ∧ Dice B w' b ∧ Chg b w w'
theorem mshape_any (B b : Nat) (w : World) (hd : Dice B w b) (hB : B ≤ w.heap.size) : Calls Try.prog 36 #[.pointer (some ⟨b, 0, none⟩)] w (MSPost B b w) := by
  go_enter Try.func36, Try.ntmps36
  have H := HS.startDice hd hB
  have C := H.cells
  try simp only [cellsOf, apartOf, and_true] at C
  clear hd
  go_wp2_with fail
  refine (next_any 2 (by omega) B b _ (H.alloc.at 0 rfl)).mono ?_
  rintro _ w1 ⟨s0, rfl, hs0, hd, hg⟩
  replace H := (H.alloc).diceAt 0 rfl hg hd
  clear hg hd
  try clear C
  try simp only [World.size_alloc, List.nil_append, List.cons_append, List.append_assoc] at H
  generalize w.heap.size = bR at H ⊢
  have C := H.cells
  try simp only [cellsOf, apartOf, and_true] at C
  dsimp only
  replace hs0 : 0 ≤ s0 ∧ s0 < 2 := ⟨hs0.1, hs0.lt (by decide)⟩
  go_wp2_with fail
  refine (next_any 2 (by omega) B b _ (H.at 0 rfl)).mono ?_
  rintro _ w2 ⟨s1, rfl, hs1, hd, hg⟩
  replace H := (H).diceAt 0 rfl hg hd
  clear hg hd
  try clear C
  try simp only [World.size_alloc, List.nil_append, List.cons_append, List.append_assoc] at H
  try clear w1
  have C := H.cells
  try simp only [cellsOf, apartOf, and_true] at C
  dsimp only
  replace hs1 : 0 ≤ s1 ∧ s1 < 2 := ⟨hs1.1, hs1.lt (by decide)⟩
  go_wp2_with fail
  refine (next_any 2 (by omega) B b _ (H.at 0 rfl)).mono ?_
  rintro _ w3 ⟨s2, rfl, hs2, hd, hg⟩
  replace H := (H).diceAt 0 rfl hg hd
  clear hg hd
  try clear C
  try simp only [World.size_alloc, List.nil_append, List.cons_append, List.append_assoc] at H
  try clear w2
  have C := H.cells
  try simp only [cellsOf, apartOf, and_true] at C
  dsimp only
  replace hs2 : 0 ≤ s2 ∧ s2 < 2 := ⟨hs2.1, hs2.lt (by decide)⟩
  go_wp2_with fail
  refine (next_any 2 (by omega) B b _ (H.at 0 rfl)).mono ?_
  rintro _ w4 ⟨s3, rfl, hs3, hd, hg⟩
  replace H := (H).diceAt 0 rfl hg hd
  clear hg hd
  try clear C
  try simp only [World.size_alloc, List.nil_append, List.cons_append, List.append_assoc] at H
  try clear w3
  have C := H.cells
  try simp only [cellsOf, apartOf, and_true] at C
  dsimp only
  have hq : s3.tdiv 2 = 0 := by
    have h1 := hs3.1
    have h2 := hs3.lt (by decide)
    rcases (show s3 = 0 ∨ s3 = 1 by omega) with rfl | rfl <;> rfl
  clear hs3
  go_wp2_with fail
  refine (next_any 3 (by omega) B b _ (H.at 0 rfl)).mono ?_
  rintro _ w5 ⟨s4, rfl, hs4, hd, hg⟩
  replace H := (H).diceAt 0 rfl hg hd
  clear hg hd
  try clear C
  try simp only [World.size_alloc, List.nil_append, List.cons_append, List.append_assoc] at H
  try clear w4
  have C := H.cells
  try simp only [cellsOf, apartOf, and_true] at C
  dsimp only
  replace hs4 : 0 ≤ s4 ∧ s4 < 3 := ⟨hs4.1, hs4.lt (by decide)⟩
  go_wp2_with fail
  generalize hwb : (((((w5.setCell _ _).setCell _ _).setCell _ _).setCell _ _).setCell _ _).setCell _ _ = w6
  replace H := HS.eqW hwb (H.putAll (i := 1) rfl (vs := [.int .i64 s0, .int .i64 s1, .int .i64 s2, .int .i64 1, .int .i64 (1 + s4), .int .i64 2]) rfl rfl)
  simp only [List.nil_append, List.cons_append, List.append_assoc, List.set_cons_succ, List.set_cons_zero] at H
  clear hwb
  try clear C
  try clear w5
  have C := H.cells
  try simp only [cellsOf, apartOf, and_true] at C
  refine bodyPost_ret (by simp [results, Try.results36, go_sem, C]; try rfl) rfl ?_
  exact ⟨s0, s1, s2, 1 + s4, rfl, ⟨hs0, hs1, hs2, by omega⟩, H.at 0 rfl, H.doneDice⟩
end Go.Proofs.Ytcacgmfihhpliaa
