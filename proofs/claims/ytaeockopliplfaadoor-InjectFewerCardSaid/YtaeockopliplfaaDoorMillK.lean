/- The mill: strikes; the law's code. -/
import Derived.Test.YtaeockopliplfaaDoorMillF
import Derived.Test.YtaeockopliplfaaDoorInj4
namespace Go.Proofs.YtaeockopliplfaaDoor
set_option linter.unusedSimpArgs false
set_option linter.unusedVariables false
open Go.RowKit
set_option maxRecDepth 100000
attribute [local go_sem] lt_more ne_more ne_more'
attribute [local irreducible] wpX wpF wpG Calls

def CodePost (B b : Nat) (w : World) (e : Ending) (w' : World) : Prop :=
  ∃ kd dt ck fx, e = .returned (vC kd dt ck fx) ∧ CodeOk kd dt ck fx ∧ (1 ≤ dt + ck ∧ dt + ck ≤ 9) ∧ Dice B w' b ∧ Chg b w w'
theorem code41_any (B b : Nat) (w : World) (hd : Dice B w b) (hB : B ≤ w.heap.size) : Calls Tryd.prog 30 #[.pointer (some ⟨b, 0, none⟩)] w (CodePost B b w) := by
  go_enter Tryd.func30, Tryd.ntmps30
  have H := HS.startDice hd hB
  have C := H.cells
  try simp only [cellsOf, apartOf, and_true] at C
  clear hd
  go_wp2_with fail
  refine (next_any 4 (by omega) B b _ (H.alloc.at 0 rfl)).mono ?_
  rintro _ w1 ⟨v, rfl, hv, hd, hg⟩
  replace H := (H.alloc).diceAt 0 rfl hg hd
  clear hg hd
  try clear C
  try simp only [World.size_alloc, List.nil_append, List.cons_append, List.append_assoc] at H
  generalize w.heap.size = bR at H ⊢
  have C := H.cells
  try simp only [cellsOf, apartOf, and_true] at C
  dsimp only
  by_cases h0 : v = 0
  · subst h0
    skip
    go_wp2_with fail
    generalize hwb : (((w1.setCell _ _).setCell _ _).setCell _ _).setCell _ _ = w2
    replace H := HS.eqW hwb (H.putAll (i := 1) rfl (vs := [.int .i64 1, .int .i64 8, .int .i64 1, .int .i64 1]) rfl rfl)
    simp only [List.nil_append, List.cons_append, List.append_assoc, List.set_cons_succ, List.set_cons_zero] at H
    clear hwb
    try clear C
    try clear w1
    have C := H.cells
    try simp only [cellsOf, apartOf, and_true] at C
    refine bodyPost_ret (by simp [results, Tryd.results30, go_sem, C]; try rfl) rfl ?_
    exact ⟨1, 8, 1, 1, rfl, .inl rfl, by decide, H.at 0 rfl, H.doneDice⟩
  · clear hv
    skip
    go_wp2_with fail
    refine (next_any 4 (by omega) B b _ (H.at 0 rfl)).mono ?_
    rintro _ w3 ⟨v1, rfl, hv1, hd, hg⟩
    replace H := (H).diceAt 0 rfl hg hd
    clear hg hd
    try clear C
    try simp only [World.size_alloc, List.nil_append, List.cons_append, List.append_assoc] at H
    try clear w1
    have C := H.cells
    try simp only [cellsOf, apartOf, and_true] at C
    dsimp only
    replace hv1 : 0 ≤ v1 ∧ v1 < 4 := ⟨hv1.1, hv1.lt (by decide)⟩
    go_wp2_with fail
    refine (next_any 3 (by omega) B b _ (H.at 0 rfl)).mono ?_
    rintro _ w4 ⟨v2, rfl, hv2, hd, hg⟩
    replace H := (H).diceAt 0 rfl hg hd
    clear hg hd
    try clear C
    try simp only [World.size_alloc, List.nil_append, List.cons_append, List.append_assoc] at H
    try clear w3
    have C := H.cells
    try simp only [cellsOf, apartOf, and_true] at C
    dsimp only
    replace hv2 : 0 ≤ v2 ∧ v2 < 3 := ⟨hv2.1, hv2.lt (by decide)⟩
    go_wp2_with fail
    generalize hwb : (((w4.setCell _ _).setCell _ _).setCell _ _).setCell _ _ = w5
    replace H := HS.eqW hwb (H.putAll (i := 1) rfl (vs := [.int .i64 2, .int .i64 (1 + v1), .int .i64 4, .int .i64 v2]) rfl rfl)
    simp only [List.nil_append, List.cons_append, List.append_assoc, List.set_cons_succ, List.set_cons_zero] at H
    clear hwb
    try clear C
    try clear w4
    have C := H.cells
    try simp only [cellsOf, apartOf, and_true] at C
    refine bodyPost_ret (by simp [results, Tryd.results30, go_sem, C]; try rfl) rfl ?_
    exact ⟨2, 1 + v1, 4, v2, rfl, .inr ⟨rfl, by omega, by decide, by omega⟩, by omega, H.at 0 rfl, H.doneDice⟩

theorem HS.rowOutD' {b : Nat} {W w : World} {L : List Item} (h : HS (OneD b) W L w) (k d : Nat) {B : Nat} {v : Value} {e : TypeId} {s n : Nat} {xs : List Value} (hk : L[k]? = some (.row v e s n xs)) (hd : L[d]? = some (.dice B b)) (hkd : k ≠ d) : w.ownsRow W.heap.size e s v n xs := by
  have h1 : w.ownsRow 0 e s v n xs := h.at k hk
  have h2 := h.own _ (List.mem_of_getElem? hk)
  have h0 := h1
  obtain ⟨h3, h4⟩ := h1
  refine ⟨h3, ?_⟩
  rcases h4 with h4 | ⟨g, cap, cur, hv, hg, r⟩
  · exact .inl h4
  · refine .inr ⟨g, cap, cur, hv, ?_, r⟩
    have hfp : (Item.row v e s n xs).fp g := by show v.ownBlock = some g; rw [hv]; rfl
    rcases h2 g hfp with h | h'
    · exact h
    · have : g = b := h'
      subst this
      exact absurd rfl (h.apart hk hd hkd hfp)
theorem infoSt : (Tryd.prog.info? 63).map (fun i => (i.zero, i.size, i.bytes)) = some (some (.agg #[.int .i64 0, .int .i64 0, .int .i64 0, .int .i64 0, .int .i64 0, .int .i64 0, .int .i64 0, .int .i64 0, .int .i64 0, .int .u8 0, .int .u8 0, .bool false]), 12, 80) := by kernel_rfl
theorem elemSt : Elem Tryd.prog 60 63 (.agg #[.int .i64 0, .int .i64 0, .int .i64 0, .int .i64 0, .int .i64 0, .int .i64 0, .int .i64 0, .int .i64 0, .int .i64 0, .int .u8 0, .int .u8 0, .bool false]) 12 80 := Elem.mk' Tryd.underlying60 infoSt rfl (by decide)
def StrikesPost (B b : Nat) (w : World) (e : Ending) (w' : World) : Prop :=
  ∃ (xs : List St) (sa : Option Addr) (c : Nat), e = .returned (.slice sa xs.length c) ∧ w'.ownsRow w.heap.size 63 12 (.slice sa xs.length c) xs.length (xs.flatMap stC) ∧ xs.length ≤ 5 ∧ Dice B w' b ∧ Chg b w w'
set_option maxHeartbeats 8000000 in
theorem strikes_any {a0 a1 a2 a3 a4 a5 : Int} (h : SV a0 a1 a2 a3 a4 a5) (chips : Int) (hc : chips ≤ 1000) (hc1 : 1 ≤ chips) (B b : Nat) (w : World) (hd : Dice B w b) (hB : B ≤ w.heap.size) :
    Calls Tryd.prog 31 #[.pointer (some ⟨b, 0, none⟩), v6 a0 a1 a2 a3 a4 a5, .int .i64 chips] w (StrikesPost B b w) := by
  have HS' := Lib.hid h
  have HC := Lib.hid hc
  have HC1 := Lib.hid hc1
  clear h hc hc1
  go_enter Tryd.func31, Tryd.ntmps31
  have H := HS.startDice hd hB
  have C := H.cells
  try simp only [cellsOf, apartOf, and_true] at C
  clear hd
  go_wp2_with fail
  refine (next_any 6 (by omega) B b _ (H.alloc.at 0 rfl)).mono ?_
  rintro _ w1 ⟨v, rfl, hv, hd, hg⟩
  replace H := (H.alloc).diceAt 0 rfl hg hd
  clear hg hd
  try clear C
  try simp only [World.size_alloc, List.nil_append, List.cons_append, List.append_assoc] at H
  generalize w.heap.size = bS at H ⊢
  have C := H.cells
  try simp only [cellsOf, apartOf, and_true] at C
  dsimp only
  replace hv : 0 ≤ v ∧ v < 6 := ⟨hv.1, hv.lt (by decide)⟩
  replace H := H.nilRow 63 12
  try simp only [List.nil_append, List.cons_append] at H
  go_wp2_with fail
  go_loopw [7, 8, 9] (fun u t c wr => ∃ (xs : List St) (k : Nat) (tm : Int), c = .int .i64 k ∧ t = .int .i64 tm ∧ xs.length + k ≤ 5 ∧ HS (OneD b) w [.dice B b, .blk bS #[.int .i64 a0, .int .i64 a1, .int .i64 a2, .int .i64 a3, .int .i64 a4, .int .i64 a5] 28, .row u 63 12 xs.length (xs.flatMap stC)] wr) (fun _ _ c _ => (intOf c).toNat)
  case atStart => exact ⟨[], v.toNat, 0, by rw [Int.toNat_of_nonneg hv.1], rfl, by simp; omega, H⟩
  case round =>
    clear H C hv w1
    obtain ⟨xs, k, tm, rfl, rfl, hk, H⟩ := hrel
    skip
    try clear C
    try simp only [World.size_alloc, List.nil_append, List.cons_append, List.append_assoc] at H
    have C := H.cells
    try simp only [cellsOf, apartOf, and_true] at C
    by_cases hk0 : 0 < k
    · go_wp2_with fail
      refine (next_any 4 (by omega) B b _ (H.at 0 rfl)).mono ?_
      rintro _ w2 ⟨v1, rfl, hv1, hd, hg⟩
      replace H := (H).diceAt 0 rfl hg hd
      clear hg hd
      try clear C
      try simp only [World.size_alloc, List.nil_append, List.cons_append, List.append_assoc] at H
      try clear wr
      have C := H.cells
      try simp only [cellsOf, apartOf, and_true] at C
      dsimp only
      clear hv1
      go_wp2_with fail
      refine (mfault_any HS'.out chips HC.out HC1.out B b _ (H.at 0 rfl) (Nat.le_trans hB H.size)).mono ?_
      rintro _ w3 ⟨kk, p0, p1, p2, p3, p4, p5, ch, ms, vl, hh, rfl, hF, hd, hg⟩
      replace H := (H).diceAt 0 rfl hg hd
      clear hg hd
      try clear C
      try simp only [World.size_alloc, List.nil_append, List.cons_append, List.append_assoc] at H
      try clear w2
      have C := H.cells
      try simp only [cellsOf, apartOf, and_true] at C
      dsimp only
      clear hF
      go_wp2_with (at_builtin; refine wpList_append_H rfl (.tmp 20) (.tmp 27) 60 rfl elemSt H.alloc 2 rfl rfl 3 rfl rfl rfl rfl (by decide) (by unfold maxLen; omega) (by omega) (fun g cap wz HZ => ?_); clear H C)
      have H := HZ
      clear HZ
      skip
      simp only [List.cons_append, List.nil_append, List.set_cons_succ, List.set_cons_zero] at H
      go_wp2_with fail
      go_roundw
      case rel => exact ⟨xs ++ [⟨wrap64 (tm + v1), kk, p0, p1, p2, p3, p4, p5, ch, ms, vl, hh⟩], k - 1, _, by go_num, rfl, by simp; omega, by
        rw [List.length_append, List.flatMap_append]
        exact H.less (by repeat (first | exact .slnil | refine .cons_cons _ ?_ | refine .cons _ ?_))⟩
      case measure => simp [intOf]; omega
    · have hk0' : k = 0 := by omega
      subst hk0'
      obtain ⟨sb, dd, rfl⟩ := ownsRow_slice (H.at 2 rfl)
      skip
      try clear C
      try simp only [World.size_alloc, List.nil_append, List.cons_append, List.append_assoc] at H
      have C := H.cells
      try simp only [cellsOf, apartOf, and_true] at C
      go_wp2_with fail
      go_ret
      exact ⟨xs, sb, dd, rfl, H.rowOutD' 2 0 rfl rfl (by decide), by omega, H.at 0 rfl, H.doneDice⟩
end Go.Proofs.YtaeockopliplfaaDoor
