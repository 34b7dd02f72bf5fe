/- Package spare: unused, Left. -/
import Derived.Test.YtcacgmfihhpliaaSpare4
import Derived.Deep.LoopGhost
namespace Go.Proofs.Ytcacgmfihhpliaa
set_option linter.unusedSimpArgs false
set_option linter.unusedVariables false
open Go.RowKit
set_option maxRecDepth 100000
attribute [local go_sem] lt_more ne_more ne_more'
attribute [local irreducible] wpX wpF Calls

set_option maxHeartbeats 4000000 in
theorem unused_of {a0 a1 a2 a3 a4 a5 n : Int} (h : SV a0 a1 a2 a3 a4 a5) (hn : 0 ≤ n ∧ n < rwz a4) (p0 p1 p2 p3 p4 p5 : Int) {sa : Option Addr} (c : Nat) {xs : List S8} (hx : xs.length ≤ 1000) (w : World) (hl : Lies w w.heap.size sa 8 xs.length (fun j => sC xs[j]!)) :
    Calls Try.prog 63 #[vSp a0 a1 a2 a3 a4 a5 n (.slice sa xs.length c), v6 p0 p1 p2 p3 p4 p5] w (GivesS (fun v => v) 3 1 (freeK (rwz a4 - n) p0 p1 p2 p3 xs n.toNat).length ((freeK (rwz a4 - n) p0 p1 p2 p3 xs n.toNat).flatMap iC) w) := by
  have HL := Lib.hid hl
  clear hl
  have hz := rwz_in h
  have HR := Lib.hid (fun w => srows_of h w)
  obtain ⟨R, hR⟩ : ∃ R, R = rwz a4 := ⟨_, rfl⟩
  rw [← hR] at hn hz HR ⊢
  obtain ⟨N, hN⟩ : ∃ N, N = n.toNat := ⟨_, rfl⟩
  have hNn : (N : Int) = n := by omega
  rw [← hN]
  have hN2 : N ≤ 4096 := by omega
  clear hR hN
  go_enter Try.func63, Try.ntmps63
  have H := HS.start NoD w
  go_wp2_with fail
  have hnr := H.nilRow 3 1
  clear H
  have H := hnr
  clear hnr
  refine wp_region_fH (by kernel_rfl) [0, 1, 2, 3, 4, 5, 6, 7] (by kernel_rfl) (by kernel_rfl) (by kernel_rfl) (fun _ => False) (H.alloc.alloc) ?_
  clear H; intro w1 H hz0
  try clear C
  try simp only [World.size_alloc, List.nil_append, List.cons_append, List.append_assoc] at H hz0 ⊢
  generalize w.heap.size + 1 = bP at H hz0 ⊢
  generalize w.heap.size = bX at H hz0 ⊢
  clear hz0
  have C := H.cells
  try simp only [cellsOf, apartOf, and_true] at C
  simp only [List.filterMap_cons, List.filterMap_nil, List.getElem?_toArray, List.getElem?_cons_zero, List.getElem?_cons_succ]
  (refine wpF_free rfl rfl rfl (fun _ _ => ?_); go_step; go_step)
  (refine wpF_load rfl rfl rfl (by simp [Stay, OneD, NoD, *]) (by simp [*]) (fun _ _ => ?_); go_step; go_step)
  (refine wpF_call rfl rfl (fun wc hc _ _ => ?_); go_step; refine (HR.out _).mono ?_; rintro _ wd ⟨rfl, hb⟩; dsimp only; go_step; refine ⟨hc.below (fun _ h => h.lt) hb (hc.inv.below hb), fun k _ hk => hb.block k hk, ?_⟩; clear hb hc wc wd)
  (refine wpF_free rfl rfl rfl (fun _ _ => ?_); go_step; go_step)
  (refine wpF_load rfl rfl rfl (by simp [Stay, OneD, NoD, *]) (by simp [*]) (fun _ _ => ?_); go_step; go_step)
  (refine wpF_free rfl rfl rfl (fun _ _ => ?_); go_step; go_step)
  (refine wpF_float rfl rfl #[.int .i64 0]   3 (fun w => by kernel_rfl) (fun bq hbq nbq _ _ => ?_); go_simp; go_step)
  (refine wpF_store (cs := #[.int .i64 (R - n)]) rfl rfl rfl rfl (Fl.at _ _ _) rfl (by kernel_rfl) rfl rfl (fun _ _ => ?_); go_simp; go_step)
  refine wpF_nil ?_
  intro w2 hC
  replace H := H.floats1 hC (Fl.at _ _ _)
  clear hC C hbq nbq w1
  try simp only [List.nil_append, List.cons_append, List.append_assoc] at H
  have C := H.cells
  try simp only [cellsOf, apartOf, and_true] at C
  go_step
  go_step
  go_wp2_with fail
  go_loopg [5, 6] N (fun gg v q wr => ∃ (k : Nat) (bq : Nat), q = .pointer (some ⟨bq, 0, none⟩) ∧ k ≤ N ∧ N - k ≤ gg ∧ HS NoD w [.row v 3 1 (freeK (R - n) p0 p1 p2 p3 xs k).length ((freeK (R - n) p0 p1 p2 p3 xs k).flatMap iC), .blk bX #[.int .i64 a0, .int .i64 a1, .int .i64 a2, .int .i64 a3, .int .i64 a4, .int .i64 a5, .int .i64 n, .slice sa xs.length c] 26, .blk bP #[.int .i64 p0, .int .i64 p1, .int .i64 p2, .int .i64 p3, .int .i64 p4, .int .i64 p5] 28, .blk bq #[.int .i64 (R - n + k)] 3] wr)
  case atStart => exact ⟨0, bq, rfl, Nat.zero_le _, by omega, by simpa [freeK] using H⟩
  case round =>
    clear H C w2
    obtain ⟨k, bq, rfl, hk, hgg, H⟩ := hrel
    skip
    try clear C
    try simp only [World.size_alloc, List.nil_append, List.cons_append, List.append_assoc] at H
    have C := H.cells
    try simp only [cellsOf, apartOf, and_true] at C
    by_cases hlt : k < N
    · have hfs := freeK_succ (R - n) p0 p1 p2 p3 xs k
      have hfl := freeK_len (R - n) p0 p1 p2 p3 xs k
      have HFS := Lib.hid hfs
      clear hfs
      generalize freeK (R - n) p0 p1 p2 p3 xs k = ys at H HFS hfl
      have q3 : R - n + (k : Int) < R := by omega
      go_upto_region 3 with fail
      refine wp_region_xH (by kernel_rfl) (by kernel_rfl) (by kernel_rfl) (by kernel_rfl) (fun _ => False) (H) ?_
      clear H; intro w3 H hz0 hs0
      try clear C
      try simp only [World.size_alloc, List.nil_append, List.cons_append, List.append_assoc] at H hz0
      clear hz0
      try clear wr
      have C := H.cells
      try simp only [cellsOf, apartOf, and_true] at C
      have Z := H.zs
      try simp only [ltsOf, and_true] at Z
      have hz0 := Nat.le_refl w3.heap.size
      repeat (first | (refine wpX_skip rfl ?_; go_simp) | (refine wpX_free rfl rfl rfl (fun K hK => ?_); go_step; refine hK _ _ ?_; clear hK K) | (refine wpX_load rfl rfl rfl (by simp [Stay, OneD, NoD, *]) hs0 (by simp [*]) (fun K hK => ?_); go_step; refine hK _ _ ?_; clear hK K))
      refine wpX_eff rfl rfl (fun _ _ => ?_)
      go_step
      refine (HR.out _).mono ?_
      rintro _ w4 ⟨rfl, hb⟩
      replace hs0 := hs0.belowS hz0 hb
      replace hz0 := Nat.le_trans hz0 hb.size
      replace H := H.below hb
      clear hb
      try clear C
      have C := H.cells
      try simp only [cellsOf, apartOf, and_true] at C
      try clear w3
      dsimp only
      go_step
      refine ⟨hs0, ?_⟩
      repeat (first | (refine wpX_skip rfl ?_; go_simp) | (refine wpX_free rfl rfl rfl (fun K hK => ?_); go_step; refine hK _ _ ?_; clear hK K) | (refine wpX_load rfl rfl rfl (by simp [Stay, OneD, NoD, *]) hs0 (by simp [*]) (fun K hK => ?_); go_step; refine hK _ _ ?_; clear hK K))
      (refine wpX_nil ?_; go_step)
      go_wp2_with fail
      have hcon := containsS 84 (fun _ _ => rfl) #[.pointer (some ⟨bP, 0, none⟩), .pointer (some ⟨bq, 0, none⟩)] (holdsS p0 p1 p2 p3 (R - n + k)) c (by omega) w4 (H.liesUp HL.out) (fun W x hb => unused1_of x p0 p1 p2 p3 p4 p5 _ bP bq W (Blk.below (H.at 2 rfl) hb) (Blk.below (H.at 3 rfl) hb))
      cases hany : xs.any (holdsS p0 p1 p2 p3 (R - n + k)) with
      | true =>
        rw [hany] at hcon HFS
        clear hany
        rw [if_pos rfl, List.append_nil] at HFS
        skip
        refine (hcon).mono ?_
        rintro _ w5 ⟨rfl, hb⟩
        replace H := H.below hb
        clear hb
        try clear C
        try simp only [World.size_alloc, List.nil_append, List.cons_append, List.append_assoc] at H
        try clear w4
        have C := H.cells
        try simp only [cellsOf, apartOf, and_true] at C
        dsimp only
        go_wp2_with fail
        go_roundg (N - (k + 1))
        case measure => omega
        case rel => exact ⟨k + 1, _, rfl, by omega, by omega, by rw [HFS.out, show R - n + ((k + 1 : Nat) : Int) = R - n + (k : Int) + 1 by omega]; exact H.alloc.less (by repeat (first | exact .slnil | refine .cons_cons _ ?_ | refine .cons _ ?_))⟩
      | false =>
        rw [hany] at hcon HFS
        clear hany
        rw [if_neg (by decide)] at HFS
        skip
        refine (hcon).mono ?_
        rintro _ w6 ⟨rfl, hb⟩
        replace H := H.below hb
        clear hb
        try clear C
        try simp only [World.size_alloc, List.nil_append, List.cons_append, List.append_assoc] at H
        try clear w4
        have C := H.cells
        try simp only [cellsOf, apartOf, and_true] at C
        dsimp only
        go_upto_region 6 with fail
        go_wp2_with (at_builtin; refine wpList_append_H rfl (.tmp 25) (.tmp 27) 27 rfl elemI2 H.alloc 0 rfl rfl 4 rfl rfl rfl rfl (by decide) (by unfold maxLen; omega) (by omega) (fun g cap wz HZ => ?_); clear H C; have C := HZ.cells; simp only [List.nil_append, List.cons_append, List.set_cons_succ, List.set_cons_zero, cellsOf, apartOf, and_true] at C)
        go_roundg (N - (k + 1))
        case measure => omega
        case rel =>
          refine ⟨k + 1, _, rfl, by omega, by omega, ?_⟩
          rw [HFS.out, List.length_append, List.flatMap_append, show R - n + ((k + 1 : Nat) : Int) = R - n + (k : Int) + 1 by omega]
          exact HZ.alloc.less (by repeat (first | exact .slnil | refine .cons_cons _ ?_ | refine .cons _ ?_))
    · have hkN : k = N := by omega
      subst hkN
      obtain ⟨sb, d, rfl⟩ := ownsRow_slice (H.at 0 rfl)
      have q3 : ¬ R - n + (k : Int) < R := by omega
      skip
      go_upto_region 3 with fail
      refine wp_region_xH (by kernel_rfl) (by kernel_rfl) (by kernel_rfl) (by kernel_rfl) (fun _ => False) (H) ?_
      clear H; intro w7 H hz0 hs0
      try clear C
      try simp only [World.size_alloc, List.nil_append, List.cons_append, List.append_assoc] at H hz0
      clear hz0
      try clear wr
      have C := H.cells
      try simp only [cellsOf, apartOf, and_true] at C
      have Z := H.zs
      try simp only [ltsOf, and_true] at Z
      have hz0 := Nat.le_refl w7.heap.size
      repeat (first | (refine wpX_skip rfl ?_; go_simp) | (refine wpX_free rfl rfl rfl (fun K hK => ?_); go_step; refine hK _ _ ?_; clear hK K) | (refine wpX_load rfl rfl rfl (by simp [Stay, OneD, NoD, *]) hs0 (by simp [*]) (fun K hK => ?_); go_step; refine hK _ _ ?_; clear hK K))
      refine wpX_eff rfl rfl (fun _ _ => ?_)
      go_step
      refine (HR.out _).mono ?_
      rintro _ w8 ⟨rfl, hb⟩
      replace hs0 := hs0.belowS hz0 hb
      replace hz0 := Nat.le_trans hz0 hb.size
      replace H := H.below hb
      clear hb
      try clear C
      have C := H.cells
      try simp only [cellsOf, apartOf, and_true] at C
      try clear w7
      dsimp only
      go_step
      refine ⟨hs0, ?_⟩
      repeat (first | (refine wpX_skip rfl ?_; go_simp) | (refine wpX_free rfl rfl rfl (fun K hK => ?_); go_step; refine hK _ _ ?_; clear hK K) | (refine wpX_load rfl rfl rfl (by simp [Stay, OneD, NoD, *]) hs0 (by simp [*]) (fun K hK => ?_); go_step; refine hK _ _ ?_; clear hK K))
      (refine wpX_nil ?_; go_step)
      go_wp2_with fail
      go_ret
      exact H.givesS 0 (mk := fun v => v) rfl
/-- Left, on valid spares. -/
theorem sleft_of {a0 a1 a2 a3 a4 a5 n : Int} (h : SV a0 a1 a2 a3 a4 a5) (hn : 0 ≤ n ∧ n < rwz a4) {p0 p1 p2 p3 p4 p5 : Int} (hp : PV a0 a1 a2 a3 a4 a5 p0 p1 p2 p3 p4 p5) {sa : Option Addr} (c : Nat) {xs : List S8} (hx : xs.length ≤ 16) (hcap : xs.length ≤ c) (hok : allR a0 a1 a2 a3 a4 a5 n xs = true) (w : World) (hl : Lies w w.heap.size sa 8 xs.length (fun j => sC xs[j]!)) :
    Calls Try.prog 28 #[vSp a0 a1 a2 a3 a4 a5 n (.slice sa xs.length c), v6 p0 p1 p2 p3 p4 p5] w (Gives (.int .i64 (freeK (rwz a4 - n) p0 p1 p2 p3 xs n.toNat).length) w) := by
  have HL := Lib.hid hl
  clear hl
  have HV := Lib.hid (fun w hl => by have := svalid_of h hn (sa := sa) c (xs := xs) (by omega) hcap w hl; rw [hok, decide_eq_true hx] at this; exact this : ∀ w, Lies w w.heap.size sa 8 xs.length (fun j => sC xs[j]!) → Calls Try.prog 24 #[vSp a0 a1 a2 a3 a4 a5 n (.slice sa xs.length c)] w (Gives (.bool true) w))
  have HP := Lib.hid (fun w => validPlace_yes h hp w)
  have HU := Lib.hid (fun w hl => unused_of h hn p0 p1 p2 p3 p4 p5 (sa := sa) c (xs := xs) (by omega) w hl)
  go_enter Try.func28, Try.ntmps28
  have H := HS.start NoD w
  go_wp2_with fail
  refine (HV.out _ (H.alloc.alloc.liesUp HL.out)).mono ?_
  rintro _ w1 ⟨rfl, hb⟩
  replace H := H.alloc.alloc.below hb
  clear hb
  try clear C
  try simp only [World.size_alloc, List.nil_append, List.cons_append, List.append_assoc] at H
  generalize w.heap.size + 1 = bP at H ⊢
  generalize w.heap.size = bX at H ⊢
  have C := H.cells
  try simp only [cellsOf, apartOf, and_true] at C
  dsimp only
  go_wp2_with fail
  refine (HP.out _).mono ?_
  rintro _ w2 ⟨rfl, hb⟩
  replace H := H.below hb
  clear hb
  try clear C
  try simp only [World.size_alloc, List.nil_append, List.cons_append, List.append_assoc] at H
  try clear w1
  have C := H.cells
  try simp only [cellsOf, apartOf, and_true] at C
  dsimp only
  go_wp2_with fail
  refine (HU.out _ (H.liesUp HL.out)).mono ?_
  rintro _ w3 ⟨s1, d1, rfl, hr, hb⟩
  replace H := (H).getsRow hb hr
  clear hb hr
  try clear C
  try simp only [World.size_alloc, List.nil_append, List.cons_append, List.append_assoc] at H
  try clear w2
  have C := H.cells
  try simp only [cellsOf, apartOf, and_true] at C
  dsimp only
  go_wp2_with fail
  go_ret
  exact ⟨rfl, H.done⟩
end Go.Proofs.Ytcacgmfihhpliaa
