/- made.Bytes: bytes; chapter 13's random: a made memory is valid. -/
import Derived.Test.YtplflpmkomeadaaDoorCeMr
import Derived.Test.YtplflpmkomeadaaDoorCeZp
import Derived.Deep.Light
import Derived.Test.YtplflpmkomeadaaDoorCeS
import Derived.Test.YtplflpmkomeadaaDoorCeO
import Derived.Test.YtplflpmkomeadaaDoorCeN
namespace Go.Proofs.YtplflpmkomeadaaDoor
set_option linter.unusedSimpArgs false
set_option linter.unusedVariables false
open Go.RowKit
set_option maxRecDepth 100000
attribute [local irreducible] wpX wpF Calls

def GivesBB (n : Nat) (B b : Nat) (w : World) (e : Ending) (w' : World) : Prop :=
  ∃ (s : Option Addr) (c : Nat) (bs : List Int), e = .returned (.slice s n c) ∧ bs.length = n ∧ (∀ x ∈ bs, ByteR x) ∧ HS (OneD b) w [.dice B b, .row (.slice s n c) 5 1 n (bs.flatMap bC1)] w'
set_option maxHeartbeats 4000000 in
theorem mbytesB_any (n : Nat) (hn : n ≤ 1000) (B b : Nat) (w : World) (hd : Dice B w b) (hB : B ≤ w.heap.size) :
    Calls Tryd.prog 28 #[.pointer (some ⟨b, 0, none⟩), .int .i64 n] w (GivesBB n B b w) := by
  go_enter Tryd.func28, Tryd.ntmps28
  have H := HS.startDice hd hB
  have C := H.cells
  try simp only [cellsOf, cellsM, apartOf, apartM, and_true] at C
  clear hd
  have hnr := H.nilRow 5 1
  clear H
  have H := hnr
  clear hnr
  try simp only [List.nil_append, List.cons_append] at H
  try clear C
  try simp only [World.size_alloc, List.nil_append, List.cons_append, List.append_assoc] at H
  have C := H.cells
  try simp only [cellsOf, cellsM, apartOf, apartM, and_true] at C
  go_wp2_with fail
  go_loopw [1, 5] (fun nn u wr => ∃ (k : Nat) (bs : List Int), nn = .int .i64 k ∧ k + bs.length = n ∧ Hid (∀ x ∈ bs, ByteR x) ∧ HS (OneD b) w [.dice B b, .row u 5 1 bs.length (bs.flatMap bC1)] wr) (fun nn _ _ => (intOf nn).toNat)
  case atStart => exact ⟨n, [], rfl, by simp, (show Hid _ from fun x hx => absurd hx List.not_mem_nil), H⟩
  case round =>
    clear H C
    obtain ⟨k, bs, rfl, hk, HBY, H⟩ := hrel
    skip
    try clear C
    try simp only [World.size_alloc, List.nil_append, List.cons_append, List.append_assoc] at H
    have C := H.cells
    try simp only [cellsOf, cellsM, apartOf, apartM, and_true] at C
    by_cases hk0 : 0 < k
    · have hki : (0 : Int) < k := by omega
      have hbl : bs.length ≤ 1000 := by omega
      have hkw : IntKind.i64.wrap ((k : Int) - 1) = ((k - 1 : Nat) : Int) := by rw [IntWalk.i64_in _ (by omega)]; omega
      go_wp2_with fail
      refine (next_any 256 (by omega) B b _ (H.at 0 rfl)).mono ?_
      rintro _ w1 ⟨v0, rfl, hv0, hd, hg⟩
      replace H := (H).diceAt 0 rfl hg hd
      clear hg hd
      try clear C
      try simp only [World.size_alloc, List.nil_append, List.cons_append, List.append_assoc] at H
      try clear wr
      have C := H.cells
      try simp only [cellsOf, cellsM, apartOf, apartM, and_true] at C
      dsimp only
      go_wp2_with (at_builtin; refine wpList_append_H rfl (.tmp 10) (.tmp 14) 48 rfl elemBy H.alloc 1 rfl rfl 2 rfl rfl rfl rfl (by decide) (by unfold maxLen; omega) (by omega) (fun g cap wz HZ => ?_); clear H C)
      go_roundw
      case rel =>
        refine ⟨k - 1, bs ++ [v0 % 256], rfl, by rw [List.length_append]; simp; omega, (show Hid _ from fun x hx => ?_), ?_⟩
        · rcases List.mem_append.1 hx with h1 | h1
          · exact HBY.out x h1
          · cases List.mem_singleton.1 h1
            exact ⟨Int.emod_nonneg _ (by decide), Int.emod_lt_of_pos _ (by decide)⟩
        · rw [List.length_append, List.flatMap_append]
          exact HS.less HZ (by repeat (first | exact .slnil | refine .cons_cons _ ?_ | refine .cons _ ?_))
      case measure => simp [intOf]; omega
    · obtain rfl : k = 0 := by omega
      obtain ⟨s5, c5, rfl⟩ := ownsRow_slice (H.at 1 rfl)
      have hbn : bs.length = n := by omega
      subst hbn
      go_wp2_with fail
      go_ret
      exact ⟨s5, c5, bs, rfl, rfl, HBY.out, H⟩
theorem kpos {k : Nat} (h0 : 0 < k) : (0 : Int) < (k : Int) := by omega
theorem kle {k : Nat} (h : k ≤ 10) : k - 1 ≤ 10 := by omega
theorem kmeas {k : Nat} (h0 : 0 < k) : ((k - 1 : Nat) : Int).toNat < ((k : Nat) : Int).toNat := by omega
theorem kwrap {k : Nat} (h : k ≤ 10) (h0 : 0 < k) : IntKind.i64.wrap ((k : Int) - 1) = ((k - 1 : Nat) : Int) := by rw [IntWalk.i64_in _ (by omega)]; omega
theorem fs_step {A B : Mm} {fs : List Fa} {n k : Nat} (h : A.fs.length ≤ n + 1) (e : A = setFs B fs) (hk : n + k ≤ 10) (h0 : 0 < k) : fs.length + (k - 1) ≤ 10 := by
  subst e
  have : fs.length ≤ n + 1 := h
  omega
end Go.Proofs.YtplflpmkomeadaaDoor
