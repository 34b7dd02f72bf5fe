/- mill.Ops: a list of operations drawn from a stream; their data. -/
import Derived.Test.YthpoanlmaafanaaPgI
namespace Go.Proofs.Ythpoanlmaafanaa
set_option linter.unusedSimpArgs false
set_option linter.unusedVariables false
open Go.RowKit
set_option maxRecDepth 100000
attribute [local irreducible] wpX wpF Calls

/-- The operations' data, each in a block that nobody writes to. -/
def dataF (l : List Ox) : Nat → Prop := fun k => ∃ x ∈ l, (Value.slice x.sa x.n x.c).ownBlock = some k
def dataK (l : List Ox) (w : World) : Prop := ∀ x ∈ l, ∃ bs : List Int, bs.length = x.n ∧ w.ownsRow 0 5 1 (.slice x.sa x.n x.c) x.n (bs.flatMap bC)
abbrev dataI (l : List Ox) : Item := .any (dataF l) (dataK l)
theorem dataOk {l : List Ox} {w : World} (h : dataK l w) : (dataI l).ok w := by
  refine ⟨h, fun k hk => ?_, fun w' hw x hx => ?_⟩
  · obtain ⟨x, hx, hk⟩ := hk
    obtain ⟨bs, -, hr⟩ := h x hx
    exact Item.lt (A := .row (.slice x.sa x.n x.c) 5 1 x.n (bs.flatMap bC)) hr hk
  · obtain ⟨bs, hb, hr⟩ := h x hx
    exact ⟨bs, hb, Item.keep (A := .row (.slice x.sa x.n x.c) 5 1 x.n (bs.flatMap bC)) hr (fun k hk => hw k ⟨x, hx, hk⟩) (fun k hk => absurd hk (Nat.not_lt_zero _))⟩
theorem cellsD {w : World} {l : List Ox} {L : List Item} : cellsOf w (dataI l :: L) = cellsOf w L := rfl
theorem apartD {b : Nat} {l : List Ox} {L : List Item} : apartOf b (dataI l :: L) = apartOf b L := rfl
theorem ltsD {n : Nat} {l : List Ox} {L : List Item} : ltsOf n (dataI l :: L) = ltsOf n L := rfl
section
variable {D : Nat → Prop} {W w : World} {L : List Item}
theorem HS.dataNil (h : HS D W L w) : HS D W (L ++ [dataI []]) w := by
  refine ⟨h.os, h.tape, h.output, h.size, h.old, fun X hX => ?_, fun X hX k hk => ?_, fun X hX => ?_, List.pairwise_append.2 ⟨h.dis, List.pairwise_singleton _ _, fun X hX Y hY k hk hk' => ?_⟩⟩
  · rcases List.mem_append.1 hX with hX | hX
    · exact h.ok X hX
    · cases List.mem_singleton.1 hX; exact dataOk fun x hx => absurd hx List.not_mem_nil
  · rcases List.mem_append.1 hX with hX | hX
    · exact h.own X hX k hk
    · cases List.mem_singleton.1 hX; obtain ⟨x, hx, -⟩ := hk; exact absurd hx List.not_mem_nil
  · rcases List.mem_append.1 hX with hX | hX
    · exact h.low X hX
    · cases List.mem_singleton.1 hX; exact ⟨Nat.zero_le _, fun k hk => absurd hk (Nat.not_lt_zero _)⟩
  · cases List.mem_singleton.1 hY
    obtain ⟨x, hx, -⟩ := hk'
    exact absurd hx List.not_mem_nil
theorem HS.dataAdd {l : List Ox} {x : Ox} {bs : List Int} (hb : bs.length = x.n) (h : HS D W (L ++ [dataI l, .row (.slice x.sa x.n x.c) 5 1 x.n (bs.flatMap bC)]) w) : HS D W (L ++ [dataI (l ++ [x])]) w := by
  have h1 : (dataI l).ok w := h.ok _ (by simp)
  have h2 : w.ownsRow 0 5 1 (.slice x.sa x.n x.c) x.n (bs.flatMap bC) := h.ok (.row (.slice x.sa x.n x.c) 5 1 x.n (bs.flatMap bC)) (by simp)
  have hfp : ∀ k, (dataI (l ++ [x])).fp k → (dataI l).fp k ∨ (Item.row (.slice x.sa x.n x.c) 5 1 x.n (bs.flatMap bC)).fp k := fun k hk => by
    obtain ⟨y, hy, hk⟩ := hk
    rcases List.mem_append.1 hy with hy | hy
    · exact .inl ⟨y, hy, hk⟩
    · cases List.mem_singleton.1 hy; exact .inr hk
  have hd := List.pairwise_append.1 h.dis
  refine ⟨h.os, h.tape, h.output, h.size, h.old, fun X hX => ?_, fun X hX k hk => ?_, fun X hX => ?_, List.pairwise_append.2 ⟨hd.1, List.pairwise_singleton _ _, fun X hX Y hY k hk hk' => ?_⟩⟩
  · rcases List.mem_append.1 hX with hX | hX
    · exact h.ok X (by simp [hX])
    · cases List.mem_singleton.1 hX
      refine dataOk fun y hy => ?_
      rcases List.mem_append.1 hy with hy | hy
      · exact h1.1 y hy
      · cases List.mem_singleton.1 hy; exact ⟨bs, hb, h2⟩
  · rcases List.mem_append.1 hX with hX | hX
    · exact h.own X (by simp [hX]) k hk
    · cases List.mem_singleton.1 hX
      rcases hfp k hk with hk | hk
      · exact h.own _ (by simp) k hk
      · exact h.own (.row (.slice x.sa x.n x.c) 5 1 x.n (bs.flatMap bC)) (by simp) k hk
  · rcases List.mem_append.1 hX with hX | hX
    · exact h.low X (by simp [hX])
    · cases List.mem_singleton.1 hX; exact ⟨Nat.zero_le _, fun k hk => absurd hk (Nat.not_lt_zero _)⟩
  · cases List.mem_singleton.1 hY
    rcases hfp k hk' with hk' | hk'
    · exact hd.2.2 X hX _ (by simp) k hk hk'
    · exact hd.2.2 X hX (.row (.slice x.sa x.n x.c) 5 1 x.n (bs.flatMap bC)) (by simp) k hk hk'
theorem HS.blkRowP (h : HS D W L w) (i : Nat) {b n k : Nat} {cs : Array Value} {t : TypeId} (hi : L[i]? = some (.blk b cs t)) (hm : n ≤ maxLen) (hs : cs.size = n * k) : HS D W (L.set i (.row (.slice (some ⟨b, 0, none⟩) n n) t k n cs.toList)) w := by
  have hb : Blk w b cs t := h.at i hi
  rw [set_at _ hi]
  rw [split_at hi] at h
  refine h.swap (X := .blk b cs t) (Y := .row (.slice (some ⟨b, 0, none⟩) n n) t k n cs.toList) rfl rfl rfl (Nat.le_refl _) (fun k hk hn => rfl) ?_ (fun j hj => ?_) (.inr rfl)
  · refine ⟨by simpa using hs, .inr ⟨b, n, cs, rfl, Nat.zero_le _, hb, Nat.le_refl _, hm, hs, ?_⟩⟩
    rw [← hs, ← Array.length_toList, List.take_length]
  · exact .inl (by have : some b = some j := hj; injection this with this; exact this.symm)
end
def GivesOps (n most : Nat) (B b : Nat) (w : World) (e : Ending) (w' : World) : Prop :=
  ∃ (v : Value) (l : List Ox), e = .returned v ∧ 2 ≤ l.length ∧ l.length ≤ most + 2 ∧ (∀ x ∈ l, x.n ≤ n) ∧ HS (OneD b) w [.dice B b, .row v 38 6 l.length (l.flatMap oxC), dataI l] w'
set_option maxHeartbeats 8000000 in
theorem mops_any (n : Nat) (hn : n ≤ 1000) (most : Nat) (hmo : most ≤ 1000) (B b : Nat) (w : World) (hd : Dice B w b) (hB : B ≤ w.heap.size) :
    Calls Try.prog 10 #[.pointer (some ⟨b, 0, none⟩), .int .i64 n, .int .i64 most] w (GivesOps n most B b w) := by
  have HOP := Lib.hid (fun w hd hB => mop_any n hn B b w hd hB)
  have HBB := Lib.hid hB
  have hmw : IntKind.i64.wrap ((most : Int) + 1) = (most : Int) + 1 := IntWalk.i64_in _ (by omega)
  go_enter Try.func10, Try.ntmps10
  have H := HS.startDice hd hB
  have C := H.cells
  try simp only [cellsOf, cellsM, apartOf, apartM, and_true] at C
  clear hd
  go_upto_region 2 with fail
  generalize hwb : w.alloc _ = w1
  replace H := HS.eqW hwb H.alloc
  try simp only [World.size_alloc, List.nil_append, List.cons_append, List.append_assoc] at H
  clear hwb
  generalize w.heap.size = bL at H ⊢
  try clear C
  have C := H.cells
  try simp only [cellsOf, cellsM, apartOf, apartM, and_true] at C
  have hrw := H.blkRowP 1 rfl (n := 2) (k := 6) (by unfold maxLen; omega) rfl
  clear H
  have H := hrw
  clear hrw
  simp only [List.set_cons_succ, List.set_cons_zero] at H
  obtain ⟨l0, hl0⟩ : ∃ l : List Ox, l = [⟨3, 1, 0, 0, 0, none, 0, 0⟩, ⟨3, 2, 1, 0, 0, none, 0, 0⟩] := ⟨_, rfl⟩
  have H9 : HS (OneD b) w [.dice B b, .row (.slice (some ⟨bL, 0, none⟩) 2 2) 38 6 l0.length (l0.flatMap oxC), dataI l0] w1 := by
    have h1 := H.dataNil
    have h2 := HS.nilRow h1 5 1
    have h3 := HS.dataAdd (L := [.dice B b, .row (.slice (some ⟨bL, 0, none⟩) 2 2) 38 6 2 _]) (l := []) (x := ⟨3, 1, 0, 0, 0, none, 0, 0⟩) (bs := []) rfl h2
    have h4 := HS.nilRow h3 5 1
    have h5 := HS.dataAdd (L := [.dice B b, .row (.slice (some ⟨bL, 0, none⟩) 2 2) 38 6 2 _]) (l := [⟨3, 1, 0, 0, 0, none, 0, 0⟩]) (x := ⟨3, 2, 1, 0, 0, none, 0, 0⟩) (bs := []) rfl h4
    rw [hl0]
    exact h5
  have hll : l0.length = 2 := by rw [hl0]; rfl
  have hln : ∀ x ∈ l0, x.n ≤ n := by rw [hl0]; intro x hx; simp only [List.mem_cons, List.mem_nil_iff, or_false] at hx; rcases hx with rfl | rfl <;> exact Nat.zero_le _
  have HLN := Lib.hid hln
  have HLL := Lib.hid hll
  clear H hl0 hll hln
  have H := H9
  clear H9
  try clear C
  try simp only [World.size_alloc, List.nil_append, List.cons_append, List.append_assoc] at H
  have C := H.cells
  try simp only [cellsOf, cellsM, apartOf, apartM, and_true] at C
  go_wp2_with fail
  refine (next_any ((most : Int) + 1) (by omega) B b _ (H.at 0 rfl)).mono ?_
  rintro _ w2 ⟨v0, rfl, hv0, hd, hg⟩
  replace H := (H).diceAt 0 rfl hg hd
  clear hg hd
  try clear C
  try simp only [World.size_alloc, List.nil_append, List.cons_append, List.append_assoc] at H
  try clear w1
  have C := H.cells
  try simp only [cellsOf, cellsM, apartOf, apartM, and_true] at C
  dsimp only
  have hv1 : v0 < (most : Int) + 1 := hv0.lt (by omega)
  obtain ⟨k0, rfl⟩ : ∃ k : Nat, v0 = k := ⟨v0.toNat, by have := hv0.1; omega⟩
  clear hv0
  go_wp2_with fail
  go_loopw [7, 8] (fun u nn wr => ∃ (k : Nat) (l : List Ox), nn = .int .i64 k ∧ k + l.length ≤ most + 2 ∧ 2 ≤ l.length ∧ Hid (∀ x ∈ l, x.n ≤ n) ∧ HS (OneD b) w [.dice B b, .row u 38 6 l.length (l.flatMap oxC), dataI l] wr) (fun _ nn _ => (intOf nn).toNat)
  case atStart => exact ⟨k0, l0, rfl, by have := HLL.out; omega, by have := HLL.out; omega, HLN, H⟩
  case round =>
    clear H C HLN HLL hv1
    obtain ⟨k, l, rfl, hk, hl2, HLN, H⟩ := hrel
    skip
    try clear C
    try simp only [World.size_alloc, List.nil_append, List.cons_append, List.append_assoc] at H
    have C := H.cells
    try simp only [cellsOf, cellsM, apartOf, apartM, and_true] at C
    by_cases hk0 : 0 < k
    · have hki : (0 : Int) < k := by omega
      have hbl : l.length ≤ 1100 := by omega
      have hkw : IntKind.i64.wrap ((k : Int) - 1) = ((k - 1 : Nat) : Int) := by rw [IntWalk.i64_in _ (by omega)]; omega
      go_wp2_with fail
      refine (HOP.out _ (H.at 0 rfl) (Nat.le_trans HBB.out H.size)).mono ?_
      rintro _ w4 ⟨x, bs, rfl, hxn, hbs, K⟩
      replace H := HS.joinDice H 0 rfl K (fun A hA => by simp only [List.mem_cons, List.mem_nil_iff, or_false] at hA; rcases hA with rfl; rfl)
      clear K
      simp only [List.nil_append, List.cons_append] at H
      replace H := HS.dataAdd (L := [_, _]) hbs H
      have HXN := Lib.hid hxn
      clear hxn hbs
      simp only [List.nil_append, List.cons_append] at H
      dsimp only [vOx]
      skip
      try clear C
      try simp only [World.size_alloc, List.nil_append, List.cons_append, List.append_assoc] at H
      have C := H.cells
      try simp only [cellsOf, cellsM, apartOf, apartM, and_true] at C
      go_wp2_with (at_builtin; refine wpList_append_H rfl (.tmp 20) (.tmp 24) 22 rfl elemOp H.alloc 1 rfl rfl 3 rfl rfl rfl rfl (by decide) (by unfold maxLen; omega) (by omega) (fun g cap wz HZ => ?_); clear H C)
      go_roundw
      case rel =>
        refine ⟨k - 1, l ++ [x], rfl, by rw [List.length_append]; simp; omega, by rw [List.length_append]; omega, (show Hid _ from fun y hy => ?_), ?_⟩
        · rcases List.mem_append.1 hy with hy | hy
          · exact HLN.out y hy
          · cases List.mem_singleton.1 hy; exact HXN.out
        · rw [List.length_append, List.flatMap_append]
          exact HS.less HZ (by repeat (first | exact .slnil | refine .cons_cons _ ?_ | refine .cons _ ?_))
      case measure => simp [intOf]; omega
    · obtain rfl : k = 0 := by omega
      go_wp2_with fail
      go_ret
      exact ⟨_, l, rfl, hl2, by omega, HLN.out, H⟩
end Go.Proofs.Ythpoanlmaafanaa
