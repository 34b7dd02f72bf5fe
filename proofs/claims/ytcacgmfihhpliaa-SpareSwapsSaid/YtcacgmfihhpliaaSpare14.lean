/- The document's answer for spares: Copy, Left, Swap. -/
import Derived.Test.YtcacgmfihhpliaaSpare13
import Derived.Test.YtcacgmfihhpliaaSpare9
import Derived.Shelf.Spec.SlicesInsert
namespace Go.Proofs.Ytcacgmfihhpliaa
set_option linter.unusedSimpArgs false
set_option linter.unusedVariables false
open Go.RowKit
set_option maxRecDepth 100000
attribute [local go_sem] lt_more ne_more ne_more'
attribute [local irreducible] wpX wpF Calls

theorem SpV.qvalid {a0 a1 a2 a3 a4 a5 n : Int} {xs : List S8} {c : Nat} (h : SpV a0 a1 a2 a3 a4 a5 n xs c) {sa : Option Addr} (w : World) (hl : Lies w w.heap.size sa 8 xs.length (fun j => sC xs[j]!)) : Calls Try.prog 25 #[vSp a0 a1 a2 a3 a4 a5 n (.slice sa xs.length c)] w (Gives (.bool true) w) := by
  have := qvalid_of h.sv h.n0 (sa := sa) c (xs := xs) (by have := h.len; omega) h.cap w hl
  rw [h.all, decide_eq_true h.len] at this
  exact this
theorem run_append_zero {P : Program} (w : World) (t ty e : TypeId) (i : TypeInfo) (ht : P.underlying t = some (.slice e)) (hi : P.info? e = some i) (v : Option Addr) (cap c : Nat) (a : Addr) :
    (Builtin.append_ #[t, t] ty #[.slice v 0 cap, .slice (some a) 0 c]).run P w = .ok (.slice v 0 cap) w := by
  cases v <;> simp [Builtin.append_, run_underlying ht, sizeOf, typeInfo, hi, Builtin.lenOf, Builtin.firstCells, storeCells, loadCells, loadCellsFrom]
theorem qcopy_emp (a0 a1 a2 a3 a4 a5 n : Int) (a : Addr) (c : Nat) (w : World) :
    Calls Try.prog 18 #[vSp a0 a1 a2 a3 a4 a5 n (.slice (some a) 0 c)] w (GivesS (vSp a0 a1 a2 a3 a4 a5 n) 38 8 0 [] w) := by
  obtain ⟨i, i1, i2, i3, i4⟩ := elemS.hi
  have hr := fun w ty => run_append_zero w 24 ty 38 i elemS.ht i1 none 0 c a
  go_enter Try.func18, Try.ntmps18
  have H := HS.start NoD w
  go_upto_region 1 with fail
  generalize hwb : (w.alloc _).alloc _ = w1
  replace H := HS.eqW hwb H.alloc.alloc
  try simp only [World.size_alloc, List.nil_append, List.cons_append, List.append_assoc] at H
  clear hwb
  generalize w.heap.size + 1 = bR at H ⊢
  generalize w.heap.size = bX at H ⊢
  try clear C
  have C := H.cells
  try simp only [cellsOf, apartOf, and_true] at C
  have hnr := H.nilRow 38 8
  clear H
  have H := hnr
  clear hnr
  try simp only [List.nil_append, List.cons_append] at H
  go_wp2_with (at_builtin; refine Lib.wpList_append_run _ rfl _ _ _ _ rfl _ _ rfl rfl _ _ (hr _ _) ?_)
  generalize hwb : World.setCell w1 ⟨bX, 7, none⟩ _ = w9
  have H := HS.eqW hwb (H.setTo (o := 7) (v := .slice none 0 0) 0 rfl rfl)
  clear hwb C
  have H : HS NoD w [.blk bX #[.int .i64 a0, .int .i64 a1, .int .i64 a2, .int .i64 a3, .int .i64 a4, .int .i64 a5, .int .i64 n, .slice none 0 0] 26, .blk bR #[.int .i64 0, .int .i64 0, .int .i64 0, .int .i64 0, .int .i64 0, .int .i64 0, .int .i64 0, .slice none 0 0] 26, .row (.slice none 0 0) 38 8 0 []] w9 := H
  skip
  try clear C
  try simp only [World.size_alloc, List.nil_append, List.cons_append, List.append_assoc] at H
  have C := H.cells
  try simp only [cellsOf, apartOf, and_true] at C
  generalize hwb : (((((((w9.setCell _ _).setCell _ _).setCell _ _).setCell _ _).setCell _ _).setCell _ _).setCell _ _).setCell _ _ = w2
  replace H := HS.eqW hwb (H.putAll (i := 1) rfl (vs := [.int .i64 a0, .int .i64 a1, .int .i64 a2, .int .i64 a3, .int .i64 a4, .int .i64 a5, .int .i64 n, .slice none 0 0]) rfl rfl)
  simp only [List.nil_append, List.cons_append, List.append_assoc, List.set_cons_succ, List.set_cons_zero] at H
  clear hwb
  try clear C
  try clear w9
  have C := H.cells
  try simp only [cellsOf, apartOf, and_true] at C
  refine bodyPost_ret (by simp [results, Try.results18, go_sem, C]; try rfl) rfl ?_
  exact H.givesS 2 (mk := vSp a0 a1 a2 a3 a4 a5 n) rfl
set_option maxHeartbeats 2000000 in
theorem qcopy_of (a0 a1 a2 a3 a4 a5 n : Int) {sa : Option Addr} (c : Nat) {xs : List S8} (hx : xs.length ≤ 1000) (w : World) (hl : Lies w w.heap.size sa 8 xs.length (fun j => sC xs[j]!)) :
    Calls Try.prog 18 #[vSp a0 a1 a2 a3 a4 a5 n (.slice sa xs.length c)] w (GivesS (vSp a0 a1 a2 a3 a4 a5 n) 38 8 xs.length (xs.flatMap sC) w) := by
  obtain ⟨i, i1, i2, i3, i4⟩ := elemS.hi
  by_cases hxs : xs = []
  · subst hxs
    clear hl
    cases sa with
    | some a => exact qcopy_emp a0 a1 a2 a3 a4 a5 n a c w
    | none =>
    show Calls Try.prog 18 #[vSp a0 a1 a2 a3 a4 a5 n (.slice none 0 c)] w _
    go_enter Try.func18, Try.ntmps18
    have H := HS.start NoD w
    go_wp2_with fail
    generalize hwb : (w.alloc _).alloc _ = w1
    replace H := HS.eqW hwb H.alloc.alloc
    try simp only [World.size_alloc, List.nil_append, List.cons_append, List.append_assoc] at H
    clear hwb
    generalize w.heap.size + 1 = bR at H ⊢
    generalize w.heap.size = bX at H ⊢
    try clear C
    have C := H.cells
    try simp only [cellsOf, apartOf, and_true] at C
    have hnr := H.nilRow 38 8
    clear H
    have H := hnr
    clear hnr
    try simp only [List.nil_append, List.cons_append] at H
    refine bodyPost_ret (by simp [results, Try.results18, go_sem, C]; try rfl) rfl ?_
    exact H.givesS 2 (mk := vSp a0 a1 a2 a3 a4 a5 n) rfl
  · have hpos : 0 < xs.length := List.length_pos_iff.2 hxs
    obtain ⟨b, o, rfl, hb, -⟩ := hl.at hpos
    have HL := Lib.hid hl
    clear hl
    go_enter Try.func18, Try.ntmps18
    have H := HS.start NoD w
    go_upto_region 1 with fail
    generalize hwb : (w.alloc _).alloc _ = w1
    replace H := HS.eqW hwb H.alloc.alloc
    try simp only [World.size_alloc, List.nil_append, List.cons_append, List.append_assoc] at H
    clear hwb
    generalize w.heap.size + 1 = bR at H ⊢
    generalize w.heap.size = bX at H ⊢
    try clear C
    have C := H.cells
    try simp only [cellsOf, apartOf, and_true] at C
    have hnr := H.nilRow 38 8
    clear H
    have H := hnr
    clear hnr
    try simp only [List.nil_append, List.cons_append] at H
    have HF := Lib.hid (Lies.flat sC_len (by decide) (H.lies HL.out))
    have hbb : b < w1.heap.size := Nat.lt_of_lt_of_le hb H.size
    go_wp2_with (at_builtin; refine wpList_append_lies _ rfl (.const (.slice none 0 0)) (.tmp 4) 24 rfl 0 38 i _ 8 64 elemS.ht i1 i2 i3 i4 elemS.hzs elemS.pos _ 0 [] rfl (H.at 2 rfl) ⟨b, o, none⟩ xs.length c (xs.flatMap sC) rfl (flat_len sC_len xs) (fun j u hu => by rw [Addr.add_lit]; exact HF.out j u hu) (sC_one xs) hpos (by unfold maxLen; omega) (by omega) (Nat.zero_le _) _ rfl (fun g cap wz h2 h3 h4 h5 => ?_); replace H := grown_row H 2 rfl h2 h3 h4; clear h2 h3 h4 h5 C; simp only [Nat.zero_add, List.nil_append, List.cons_append, List.set_cons_succ, List.set_cons_zero] at H; have C := H.cells; simp only [cellsOf, apartOf, and_true] at C)
    generalize hwb : World.setCell wz _ _ = w9
    replace H := HS.eqW hwb (H.setTo (o := 7) (v := .slice (some ⟨g, 0, none⟩) xs.length cap) 0 rfl rfl)
    clear hwb C
    skip
    try clear C
    try simp only [World.size_alloc, List.nil_append, List.cons_append, List.append_assoc] at H
    have C := H.cells
    try simp only [cellsOf, apartOf, and_true] at C
    generalize hwb : (((((((w9.setCell _ _).setCell _ _).setCell _ _).setCell _ _).setCell _ _).setCell _ _).setCell _ _).setCell _ _ = w2
    replace H := HS.eqW hwb (H.putAll (i := 1) rfl (vs := [.int .i64 a0, .int .i64 a1, .int .i64 a2, .int .i64 a3, .int .i64 a4, .int .i64 a5, .int .i64 n, .slice (some ⟨g, 0, none⟩) xs.length cap]) rfl rfl)
    simp only [List.nil_append, List.cons_append, List.append_assoc, List.set_cons_succ, List.set_cons_zero] at H
    clear hwb
    try clear C
    try clear w9
    have C := H.cells
    try simp only [cellsOf, apartOf, and_true] at C
    refine bodyPost_ret (by simp [results, Try.results18, go_sem, C]; try rfl) rfl ?_
    exact H.givesS 2 (mk := vSp a0 a1 a2 a3 a4 a5 n) rfl
/-- What Swap answers, on valid spares and a valid place. -/
def SwapR (a0 a1 a2 a3 a4 a5 n : Int) (xs : List S8) (p0 p1 p2 p3 p4 : Int) (w : World) : Ending → World → Prop :=
  if rwz a4 - n ≤ p4 then Gives (.tuple #[vSp 0 0 0 0 0 0 0 (.slice none 0 0), .int .i64 2]) w
  else if xs.any (holdsR p0 p1 p2 p3 p4) = true then Gives (.tuple #[vSp 0 0 0 0 0 0 0 (.slice none 0 0), .int .i64 8]) w
  else match freeK (rwz a4 - n) p0 p1 p2 p3 xs n.toNat with
    | [] => Gives (.tuple #[vSp 0 0 0 0 0 0 0 (.slice none 0 0), .int .i64 44]) w
    | f0 :: _ => if xs.length = 16 then Gives (.tuple #[vSp 0 0 0 0 0 0 0 (.slice none 0 0), .int .i64 16]) w
      else GivesS (fun v => .tuple #[vSp a0 a1 a2 a3 a4 a5 n v, .int .i64 0]) 38 8 (xs ++ [(⟨p0, p1, p2, p3, 0, 0, p4, f0⟩ : S8)]).length ((xs ++ [(⟨p0, p1, p2, p3, 0, 0, p4, f0⟩ : S8)]).flatMap sC) w
theorem any_none {α : Type} [Inhabited α] {p : α → Bool} {xs : List α} (h : ∀ k, k < xs.length → p xs[k]! = false) : xs.any p = false := by
  have := take_none (Nat.le_refl _) h
  rwa [List.take_length] at this
theorem any_at {α : Type} [Inhabited α] {p : α → Bool} {xs : List α} {m : Nat} (hm : m < xs.length) (h : p xs[m]! = true) : xs.any p = true := by
  have := take_any (Nat.le_refl _) hm h
  rwa [List.take_length] at this
set_option maxHeartbeats 8000000 in
theorem qswap_any {a0 a1 a2 a3 a4 a5 n p0 p1 p2 p3 p4 p5 : Int} {xs : List S8} {c : Nat} (h : SpV a0 a1 a2 a3 a4 a5 n xs c) (hp : PV a0 a1 a2 a3 a4 a5 p0 p1 p2 p3 p4 p5) {sa : Option Addr} (w : World) (hl : Lies w w.heap.size sa 8 xs.length (fun j => sC xs[j]!)) :
    Calls Try.prog 27 #[vSp a0 a1 a2 a3 a4 a5 n (.slice sa xs.length c), v6 p0 p1 p2 p3 p4 p5] w (SwapR a0 a1 a2 a3 a4 a5 n xs p0 p1 p2 p3 p4 w) := by
  have HL := Lib.hid hl
  clear hl
  have HV := Lib.hid (fun w hl => h.qvalid (sa := sa) w hl)
  have HP := Lib.hid (fun w => rvalidPlace_yes h.sv hp w)
  have HRW := Lib.hid (fun w => qrows_of h.sv w)
  have HBK := Lib.hid (fun w => qbank_of p0 p1 p2 p3 p4 p5 w)
  have HU := Lib.hid (fun w hl => qfree_of h.sv h.n0 p0 p1 p2 p3 p4 p5 (sa := sa) c (xs := xs) (by have := h.len; omega) w hl)
  have HCP := Lib.hid (fun w hl => qcopy_of a0 a1 a2 a3 a4 a5 n (sa := sa) c (xs := xs) (by have := h.len; omega) w hl)
  have hz := rwz_in h.sv
  have hn0 := h.n0
  have hlen := h.len
  have hfl := freeK_len (rwz a4 - n) p0 p1 p2 p3 xs n.toNat
  obtain ⟨i, i1, i2, i3, i4⟩ := elemS.hi
  have h4 := hp.h4
  clear h hp
  have HPS := Lib.hid (show SwapR a0 a1 a2 a3 a4 a5 n xs p0 p1 p2 p3 p4 w = _ from by unfold SwapR; rfl)
  generalize SwapR a0 a1 a2 a3 a4 a5 n xs p0 p1 p2 p3 p4 w = PS at *
  generalize freeK (rwz a4 - n) p0 p1 p2 p3 xs n.toNat = fr at *
  generalize rwz a4 = R at *
  by_cases hr : R - n ≤ p4
  · have HPE := Lib.hid (HPS.out.trans (if_pos hr))
    go_enter Try.func27, Try.ntmps27
    have H := HS.start NoD w
    go_wp2_with fail
    refine (HV.out _ (H.alloc.alloc.alloc.liesUp HL.out)).mono ?_
    rintro _ w1 ⟨rfl, hb⟩
    replace H := H.alloc.alloc.alloc.below hb
    clear hb
    try clear C
    try simp only [World.size_alloc, List.nil_append, List.cons_append, List.append_assoc] at H
    generalize w.heap.size + 2 = bR at H ⊢
    generalize w.heap.size + 1 = bP at H ⊢
    generalize w.heap.size = bX at H ⊢
    have C := H.cells
    try simp only [cellsOf, apartOf, and_true] at C
    dsimp only
    go_upto_region 3 with fail
    refine wp_region_xH (by kernel_rfl) (by kernel_rfl) (by kernel_rfl) (by kernel_rfl) (fun _ => False) (H) ?_
    clear H; intro w2 H hz0 hs0
    try clear C
    try simp only [World.size_alloc, List.nil_append, List.cons_append, List.append_assoc] at H hz0
    clear hz0
    try clear w1
    have C := H.cells
    try simp only [cellsOf, apartOf, and_true] at C
    have Z := H.zs
    try simp only [ltsOf, and_true] at Z
    have hz0 := Nat.le_refl w2.heap.size
    repeat (first | (refine wpX_skip rfl ?_; go_simp) | (refine wpX_free rfl rfl rfl (fun K hK => ?_); go_step; refine hK _ _ ?_; clear hK K) | (refine wpX_load rfl rfl rfl (by simp [Stay, OneD, NoD, *]) hs0 (by simp [*]) (fun K hK => ?_); go_step; refine hK _ _ ?_; clear hK K))
    refine wpX_eff rfl rfl (fun _ _ => ?_)
    go_step
    refine (HP.out _).mono ?_
    rintro _ w3 ⟨rfl, hb⟩
    replace hs0 := hs0.belowS hz0 hb
    replace hz0 := Nat.le_trans hz0 hb.size
    replace H := H.below hb
    clear hb
    try clear C
    have C := H.cells
    try simp only [cellsOf, apartOf, and_true] at C
    try clear w2
    dsimp only
    go_step
    refine ⟨hs0, ?_⟩
    repeat (first | (refine wpX_skip rfl ?_; go_simp) | (refine wpX_free rfl rfl rfl (fun K hK => ?_); go_step; refine hK _ _ ?_; clear hK K) | (refine wpX_load rfl rfl rfl (by simp [Stay, OneD, NoD, *]) hs0 (by simp [*]) (fun K hK => ?_); go_step; refine hK _ _ ?_; clear hK K))
    refine wpX_eff rfl rfl (fun _ _ => ?_)
    go_step
    refine (HRW.out _).mono ?_
    rintro _ w4 ⟨rfl, hb⟩
    replace hs0 := hs0.belowS hz0 hb
    replace hz0 := Nat.le_trans hz0 hb.size
    replace H := H.below hb
    clear hb
    try clear C
    have C := H.cells
    try simp only [cellsOf, apartOf, and_true] at C
    try clear w3
    dsimp only
    go_step
    refine ⟨hs0, ?_⟩
    repeat (first | (refine wpX_skip rfl ?_; go_simp) | (refine wpX_free rfl rfl rfl (fun K hK => ?_); go_step; refine hK _ _ ?_; clear hK K) | (refine wpX_load rfl rfl rfl (by simp [Stay, OneD, NoD, *]) hs0 (by simp [*]) (fun K hK => ?_); go_step; refine hK _ _ ?_; clear hK K))
    (refine wpX_nil ?_; go_step)
    go_wp2_with fail
    generalize hwb : (((((((w4.setCell _ _).setCell _ _).setCell _ _).setCell _ _).setCell _ _).setCell _ _).setCell _ _).setCell _ _ = w5
    replace H := HS.eqW hwb (H.putAll (i := 2) rfl (vs := [.int .i64 0, .int .i64 0, .int .i64 0, .int .i64 0, .int .i64 0, .int .i64 0, .int .i64 0, .slice none 0 0]) rfl rfl)
    simp only [List.nil_append, List.cons_append, List.append_assoc, List.set_cons_succ, List.set_cons_zero] at H
    clear hwb
    try clear C
    try clear w4
    have C := H.cells
    try simp only [cellsOf, apartOf, and_true] at C
    rw [HPE.out]
    refine bodyPost_ret (by simp [results, Try.results27, go_sem, C]; try rfl) rfl ?_
    exact ⟨rfl, H.done⟩
  · have HPE := Lib.hid (HPS.out.trans (if_neg hr))
    go_enter Try.func27, Try.ntmps27
    have H := HS.start NoD w
    go_wp2_with fail
    refine (HV.out _ (H.alloc.alloc.alloc.liesUp HL.out)).mono ?_
    rintro _ w1 ⟨rfl, hb⟩
    replace H := H.alloc.alloc.alloc.below hb
    clear hb
    try clear C
    try simp only [World.size_alloc, List.nil_append, List.cons_append, List.append_assoc] at H
    generalize w.heap.size + 2 = bR at H ⊢
    generalize w.heap.size + 1 = bP at H ⊢
    generalize w.heap.size = bX at H ⊢
    have C := H.cells
    try simp only [cellsOf, apartOf, and_true] at C
    dsimp only
    go_upto_region 3 with fail
    refine wp_region_xH (by kernel_rfl) (by kernel_rfl) (by kernel_rfl) (by kernel_rfl) (fun _ => False) (H) ?_
    clear H; intro w2 H hz0 hs0
    try clear C
    try simp only [World.size_alloc, List.nil_append, List.cons_append, List.append_assoc] at H hz0
    clear hz0
    try clear w1
    have C := H.cells
    try simp only [cellsOf, apartOf, and_true] at C
    have Z := H.zs
    try simp only [ltsOf, and_true] at Z
    have hz0 := Nat.le_refl w2.heap.size
    repeat (first | (refine wpX_skip rfl ?_; go_simp) | (refine wpX_free rfl rfl rfl (fun K hK => ?_); go_step; refine hK _ _ ?_; clear hK K) | (refine wpX_load rfl rfl rfl (by simp [Stay, OneD, NoD, *]) hs0 (by simp [*]) (fun K hK => ?_); go_step; refine hK _ _ ?_; clear hK K))
    refine wpX_eff rfl rfl (fun _ _ => ?_)
    go_step
    refine (HP.out _).mono ?_
    rintro _ w3 ⟨rfl, hb⟩
    replace hs0 := hs0.belowS hz0 hb
    replace hz0 := Nat.le_trans hz0 hb.size
    replace H := H.below hb
    clear hb
    try clear C
    have C := H.cells
    try simp only [cellsOf, apartOf, and_true] at C
    try clear w2
    dsimp only
    go_step
    refine ⟨hs0, ?_⟩
    repeat (first | (refine wpX_skip rfl ?_; go_simp) | (refine wpX_free rfl rfl rfl (fun K hK => ?_); go_step; refine hK _ _ ?_; clear hK K) | (refine wpX_load rfl rfl rfl (by simp [Stay, OneD, NoD, *]) hs0 (by simp [*]) (fun K hK => ?_); go_step; refine hK _ _ ?_; clear hK K))
    refine wpX_eff rfl rfl (fun _ _ => ?_)
    go_step
    refine (HRW.out _).mono ?_
    rintro _ w4 ⟨rfl, hb⟩
    replace hs0 := hs0.belowS hz0 hb
    replace hz0 := Nat.le_trans hz0 hb.size
    replace H := H.below hb
    clear hb
    try clear C
    have C := H.cells
    try simp only [cellsOf, apartOf, and_true] at C
    try clear w3
    dsimp only
    go_step
    refine ⟨hs0, ?_⟩
    repeat (first | (refine wpX_skip rfl ?_; go_simp) | (refine wpX_free rfl rfl rfl (fun K hK => ?_); go_step; refine hK _ _ ?_; clear hK K) | (refine wpX_load rfl rfl rfl (by simp [Stay, OneD, NoD, *]) hs0 (by simp [*]) (fun K hK => ?_); go_step; refine hK _ _ ?_; clear hK K))
    (refine wpX_nil ?_; go_step)
    go_wp2_with fail
    go_loopw [36] (fun cc wr => ∃ (j : Nat), cc = .int .i64 j ∧ j ≤ xs.length ∧ Hid (∀ k, k < j → holdsR p0 p1 p2 p3 p4 xs[k]! = false) ∧ HS NoD w [.blk bX #[.int .i64 a0, .int .i64 a1, .int .i64 a2, .int .i64 a3, .int .i64 a4, .int .i64 a5, .int .i64 n, .slice sa xs.length c] 26, .blk bP #[.int .i64 p0, .int .i64 p1, .int .i64 p2, .int .i64 p3, .int .i64 p4, .int .i64 p5] 28, .blk bR #[.int .i64 0, .int .i64 0, .int .i64 0, .int .i64 0, .int .i64 0, .int .i64 0, .int .i64 0, .slice none 0 0] 26] wr) (fun cc _ => xs.length - (intOf cc).toNat)
    case atStart => exact ⟨0, rfl, Nat.zero_le _, fun k hk => absurd hk (Nat.not_lt_zero _), H⟩
    case round =>
      clear H C
      try clear hs0
      try clear hz0
      try clear Z
      clear w4
      obtain ⟨j, rfl, hj, HF, H⟩ := hrel
      skip
      try clear C
      try simp only [World.size_alloc, List.nil_append, List.cons_append, List.append_assoc] at H
      have C := H.cells
      try simp only [cellsOf, apartOf, and_true] at C
      by_cases hlt : j < xs.length
      · obtain ⟨b, o, rfl, hb, hc⟩ := (H.lies HL.out).at hlt
        obtain ⟨x, hxj⟩ : ∃ x, x = xs[j]! := ⟨_, rfl⟩
        rw [← hxj] at hc
        have HX := Lib.hid hxj
        obtain ⟨t0, t1, t2, t3, t4, t5, r, s⟩ := x
        have c0 : wr.cell? ⟨b, o + j * 8, none⟩ = some (.int .i64 t0) := hc 0 _ rfl
        have c1 : wr.cell? ⟨b, o + j * 8 + 1, none⟩ = some (.int .i64 t1) := hc 1 _ rfl
        have c2 : wr.cell? ⟨b, o + j * 8 + 2, none⟩ = some (.int .i64 t2) := hc 2 _ rfl
        have c3 : wr.cell? ⟨b, o + j * 8 + 3, none⟩ = some (.int .i64 t3) := hc 3 _ rfl
        have c4 : wr.cell? ⟨b, o + j * 8 + 4, none⟩ = some (.int .i64 t4) := hc 4 _ rfl
        have c5 : wr.cell? ⟨b, o + j * 8 + 5, none⟩ = some (.int .i64 t5) := hc 5 _ rfl
        have c6 : wr.cell? ⟨b, o + j * 8 + 6, none⟩ = some (.int .i64 r) := hc 6 _ rfl
        have c7 : wr.cell? ⟨b, o + j * 8 + 7, none⟩ = some (.int .i64 s) := hc 7 _ rfl
        clear hc hxj
        go_upto_region 8 with fail
        clear c0 c1 c2 c3 c4 c5 c6 c7
        skip
        by_cases hbk : t0 = p0 ∧ t1 = p1 ∧ t2 = p2 ∧ t3 = p3 ∧ t4 = 0 ∧ t5 = 0
        · have hq : ∀ w, (binOp .eql 28 (v6 t0 t1 t2 t3 t4 t5) (v6 p0 p1 p2 p3 0 0)).run Try.prog w = .ok (.bool true) w := fun w => by rw [eql6, decide_eq_true hbk]
          have HBE := Lib.hid hbk
          clear hbk
          by_cases hrp : r = p4
          · refine wp_region_xH (by kernel_rfl) (by kernel_rfl) (by kernel_rfl) (by kernel_rfl) (fun _ => False) (H.alloc) ?_
            clear H; intro w5 H hz0 hs0
            try clear C
            try simp only [World.size_alloc, List.nil_append, List.cons_append, List.append_assoc] at H hz0
            generalize wr.heap.size = bT at H hz0 ⊢
            clear hz0
            try clear wr
            have C := H.cells
            try simp only [cellsOf, apartOf, and_true] at C
            have Z := H.zs
            try simp only [ltsOf, and_true] at Z
            have hz0 := Nat.le_refl w5.heap.size
            repeat (first | (refine wpX_skip rfl ?_; go_simp) | (refine wpX_free rfl rfl rfl (fun K hK => ?_); go_step; refine hK _ _ ?_; clear hK K) | (refine wpX_load rfl rfl rfl (by simp [Stay, OneD, NoD, *]) hs0 (by simp [*]) (fun K hK => ?_); go_step; refine hK _ _ ?_; clear hK K))
            refine wpX_eff rfl rfl (fun _ _ => ?_)
            go_step
            refine (HBK.out _).mono ?_
            rintro _ w6 ⟨rfl, hb⟩
            replace hs0 := hs0.belowS hz0 hb
            replace hz0 := Nat.le_trans hz0 hb.size
            replace H := H.below hb
            clear hb
            try clear C
            have C := H.cells
            try simp only [cellsOf, apartOf, and_true] at C
            try clear w5
            dsimp only
            go_step
            refine ⟨hs0, ?_⟩
            repeat (first | (refine wpX_skip rfl ?_; go_simp) | (refine wpX_free rfl rfl rfl (fun K hK => ?_); go_step; refine hK _ _ ?_; clear hK K) | (refine wpX_load rfl rfl rfl (by simp [Stay, OneD, NoD, *]) hs0 (by simp [*]) (fun K hK => ?_); go_step; refine hK _ _ ?_; clear hK K))
            (refine wpX_yield rfl rfl ((.bool true)) (fun w hw => by go_simp) ?_; go_simp)
            repeat (first | (refine wpX_skip rfl ?_; go_simp) | (refine wpX_free rfl rfl rfl (fun K hK => ?_); go_step; refine hK _ _ ?_; clear hK K) | (refine wpX_load rfl rfl rfl (by simp [Stay, OneD, NoD, *]) hs0 (by simp [*]) (fun K hK => ?_); go_step; refine hK _ _ ?_; clear hK K))
            (refine wpX_nil ?_; go_step)
            go_wp2_with fail
            clear hq
            have hht : xs.any (holdsR p0 p1 p2 p3 p4) = true := any_at hlt (by rw [← HX.out]; unfold holdsR; rw [decide_eq_true HBE.out]; simp [hrp])
            rw [HPE.out, if_pos hht]
            generalize hwb : (((((((w6.setCell _ _).setCell _ _).setCell _ _).setCell _ _).setCell _ _).setCell _ _).setCell _ _).setCell _ _ = w7
            replace H := HS.eqW hwb (H.putAll (i := 2) rfl (vs := [.int .i64 0, .int .i64 0, .int .i64 0, .int .i64 0, .int .i64 0, .int .i64 0, .int .i64 0, .slice none 0 0]) rfl rfl)
            simp only [List.nil_append, List.cons_append, List.append_assoc, List.set_cons_succ, List.set_cons_zero] at H
            clear hwb
            try clear C
            try clear w6
            have C := H.cells
            try simp only [cellsOf, apartOf, and_true] at C
            refine bodyPost_ret (by simp [results, Try.results27, go_sem, C]; try rfl) rfl ?_
            exact ⟨rfl, H.done⟩
          · have hrb : (r == p4) = false := beq_eq_false_iff_ne.2 hrp
            skip
            refine wp_region_xH (by kernel_rfl) (by kernel_rfl) (by kernel_rfl) (by kernel_rfl) (fun _ => False) (H.alloc) ?_
            clear H; intro w8 H hz0 hs0
            try clear C
            try simp only [World.size_alloc, List.nil_append, List.cons_append, List.append_assoc] at H hz0
            generalize wr.heap.size = bT at H hz0 ⊢
            clear hz0
            try clear wr
            have C := H.cells
            try simp only [cellsOf, apartOf, and_true] at C
            have Z := H.zs
            try simp only [ltsOf, and_true] at Z
            have hz0 := Nat.le_refl w8.heap.size
            repeat (first | (refine wpX_skip rfl ?_; go_simp) | (refine wpX_free rfl rfl rfl (fun K hK => ?_); go_step; refine hK _ _ ?_; clear hK K) | (refine wpX_load rfl rfl rfl (by simp [Stay, OneD, NoD, *]) hs0 (by simp [*]) (fun K hK => ?_); go_step; refine hK _ _ ?_; clear hK K))
            refine wpX_eff rfl rfl (fun _ _ => ?_)
            go_step
            refine (HBK.out _).mono ?_
            rintro _ w9 ⟨rfl, hb⟩
            replace hs0 := hs0.belowS hz0 hb
            replace hz0 := Nat.le_trans hz0 hb.size
            replace H := H.below hb
            clear hb
            try clear C
            have C := H.cells
            try simp only [cellsOf, apartOf, and_true] at C
            try clear w8
            dsimp only
            go_step
            refine ⟨hs0, ?_⟩
            repeat (first | (refine wpX_skip rfl ?_; go_simp) | (refine wpX_free rfl rfl rfl (fun K hK => ?_); go_step; refine hK _ _ ?_; clear hK K) | (refine wpX_load rfl rfl rfl (by simp [Stay, OneD, NoD, *]) hs0 (by simp [*]) (fun K hK => ?_); go_step; refine hK _ _ ?_; clear hK K))
            (refine wpX_yield rfl rfl ((.bool true)) (fun w hw => by go_simp) ?_; go_simp)
            repeat (first | (refine wpX_skip rfl ?_; go_simp) | (refine wpX_free rfl rfl rfl (fun K hK => ?_); go_step; refine hK _ _ ?_; clear hK K) | (refine wpX_load rfl rfl rfl (by simp [Stay, OneD, NoD, *]) hs0 (by simp [*]) (fun K hK => ?_); go_step; refine hK _ _ ?_; clear hK K))
            (refine wpX_nil ?_; go_step)
            go_wp2_with fail
            clear hq
            go_roundw
            case rel =>
              refine ⟨j + 1, by go_num, by omega, (show Hid _ from fun k hk => ?_), H.less (by repeat (first | exact .slnil | refine .cons_cons _ ?_ | refine .cons _ ?_))⟩
              by_cases e : k = j
              · rw [e, ← HX.out]; unfold holdsR; simp [hrp]
              · exact HF.out k (by omega)
            case measure => simp [intOf]; omega
        · have hq : ∀ w, (binOp .eql 28 (v6 t0 t1 t2 t3 t4 t5) (v6 p0 p1 p2 p3 0 0)).run Try.prog w = .ok (.bool false) w := fun w => by rw [eql6, decide_eq_false hbk]
          have HBE := Lib.hid hbk
          clear hbk
          skip
          refine wp_region_xH (by kernel_rfl) (by kernel_rfl) (by kernel_rfl) (by kernel_rfl) (fun _ => False) (H.alloc) ?_
          clear H; intro w10 H hz0 hs0
          try clear C
          try simp only [World.size_alloc, List.nil_append, List.cons_append, List.append_assoc] at H hz0
          generalize wr.heap.size = bT at H hz0 ⊢
          clear hz0
          try clear wr
          have C := H.cells
          try simp only [cellsOf, apartOf, and_true] at C
          have Z := H.zs
          try simp only [ltsOf, and_true] at Z
          have hz0 := Nat.le_refl w10.heap.size
          repeat (first | (refine wpX_skip rfl ?_; go_simp) | (refine wpX_free rfl rfl rfl (fun K hK => ?_); go_step; refine hK _ _ ?_; clear hK K) | (refine wpX_load rfl rfl rfl (by simp [Stay, OneD, NoD, *]) hs0 (by simp [*]) (fun K hK => ?_); go_step; refine hK _ _ ?_; clear hK K))
          refine wpX_eff rfl rfl (fun _ _ => ?_)
          go_step
          refine (HBK.out _).mono ?_
          rintro _ w11 ⟨rfl, hb⟩
          replace hs0 := hs0.belowS hz0 hb
          replace hz0 := Nat.le_trans hz0 hb.size
          replace H := H.below hb
          clear hb
          try clear C
          have C := H.cells
          try simp only [cellsOf, apartOf, and_true] at C
          try clear w10
          dsimp only
          go_step
          refine ⟨hs0, ?_⟩
          repeat (first | (refine wpX_skip rfl ?_; go_simp) | (refine wpX_free rfl rfl rfl (fun K hK => ?_); go_step; refine hK _ _ ?_; clear hK K) | (refine wpX_load rfl rfl rfl (by simp [Stay, OneD, NoD, *]) hs0 (by simp [*]) (fun K hK => ?_); go_step; refine hK _ _ ?_; clear hK K))
          (refine wpX_yield rfl rfl ((.bool false)) (fun w hw => by go_simp) ?_; go_simp)
          repeat (first | (refine wpX_skip rfl ?_; go_simp) | (refine wpX_free rfl rfl rfl (fun K hK => ?_); go_step; refine hK _ _ ?_; clear hK K) | (refine wpX_load rfl rfl rfl (by simp [Stay, OneD, NoD, *]) hs0 (by simp [*]) (fun K hK => ?_); go_step; refine hK _ _ ?_; clear hK K))
          (refine wpX_nil ?_; go_step)
          go_wp2_with fail
          clear hq
          go_roundw
          case rel =>
            refine ⟨j + 1, by go_num, by omega, (show Hid _ from fun k hk => ?_), H.less (by repeat (first | exact .slnil | refine .cons_cons _ ?_ | refine .cons _ ?_))⟩
            by_cases e : k = j
            · rw [e, ← HX.out]; unfold holdsR; rw [decide_eq_false HBE.out]; rfl
            · exact HF.out k (by omega)
          case measure => simp [intOf]; omega
      · have hht : xs.any (holdsR p0 p1 p2 p3 p4) = false := any_none (fun k hk => HF.out k (by omega))
        have HPF := Lib.hid (HPE.out.trans (if_neg (by rw [hht]; decide)))
        clear hht HF HPE
        skip
        go_wp2_with fail
        refine (HU.out _ (H.liesUp HL.out)).mono ?_
        rintro _ w12 ⟨s1, d1, rfl, hr, hb⟩
        replace H := (H).getsRow hb hr
        clear hb hr
        try clear C
        try simp only [World.size_alloc, List.nil_append, List.cons_append, List.append_assoc] at H
        try clear wr
        have C := H.cells
        try simp only [cellsOf, apartOf, and_true] at C
        dsimp only
        cases fr with
        | nil =>
          skip
          go_wp2_with fail
          rw [HPF.out]
          generalize hwb : (((((((w12.setCell _ _).setCell _ _).setCell _ _).setCell _ _).setCell _ _).setCell _ _).setCell _ _).setCell _ _ = w13
          replace H := HS.eqW hwb (H.putAll (i := 2) rfl (vs := [.int .i64 0, .int .i64 0, .int .i64 0, .int .i64 0, .int .i64 0, .int .i64 0, .int .i64 0, .slice none 0 0]) rfl rfl)
          simp only [List.nil_append, List.cons_append, List.append_assoc, List.set_cons_succ, List.set_cons_zero] at H
          clear hwb
          try clear C
          try clear w12
          have C := H.cells
          try simp only [cellsOf, apartOf, and_true] at C
          refine bodyPost_ret (by simp [results, Try.results27, go_sem, C]; try rfl) rfl ?_
          exact ⟨rfl, H.done⟩
        | cons f0 fs =>
          have hfl2 : (f0 :: fs).length ≤ 4096 := by omega
          have hfc : ((f0 :: fs).flatMap iC)[0]? = some (.int .i64 f0) := rfl
          have hlt0 : 0 < (f0 :: fs).length := by simp
          have HPG := Lib.hid (show PS = _ from HPF.out)
          dsimp only at HPG
          clear HPF HPS
          generalize f0 :: fs = fr at *
          have hne0 : ¬ (fr.length : Int) = 0 := by omega
          by_cases h16 : xs.length = 16
          · have HPH := Lib.hid (HPG.out.trans (if_pos h16))
            have h17 : (16 : Int) ≤ (xs.length : Int) := by omega
            have H16 := Lib.hid h16
            clear h16
            skip
            go_wp2_with fail
            rw [HPH.out]
            generalize hwb : (((((((w12.setCell _ _).setCell _ _).setCell _ _).setCell _ _).setCell _ _).setCell _ _).setCell _ _).setCell _ _ = w14
            replace H := HS.eqW hwb (H.putAll (i := 2) rfl (vs := [.int .i64 0, .int .i64 0, .int .i64 0, .int .i64 0, .int .i64 0, .int .i64 0, .int .i64 0, .slice none 0 0]) rfl rfl)
            simp only [List.nil_append, List.cons_append, List.append_assoc, List.set_cons_succ, List.set_cons_zero] at H
            clear hwb
            try clear C
            try clear w12
            have C := H.cells
            try simp only [cellsOf, apartOf, and_true] at C
            refine bodyPost_ret (by simp [results, Try.results27, go_sem, C]; try rfl) rfl ?_
            exact ⟨rfl, H.done⟩
          · have HPH := Lib.hid (HPG.out.trans (if_neg h16))
            have h17 : ¬ (16 : Int) ≤ (xs.length : Int) := by omega
            skip
            go_wp2_with fail
            refine (HCP.out _ (H.liesUp HL.out)).mono ?_
            rintro _ w15 ⟨s2, d2, rfl, hr, hb⟩
            replace H := (H).getsRow hb hr
            clear hb hr
            try clear C
            try simp only [World.size_alloc, List.nil_append, List.cons_append, List.append_assoc] at H
            try clear w12
            have C := H.cells
            try simp only [cellsOf, apartOf, and_true] at C
            dsimp only
            go_upto_region 17 with fail
            generalize hwb : w15.alloc _ = w16
            replace H := HS.eqW hwb H.alloc
            try simp only [World.size_alloc, List.nil_append, List.cons_append, List.append_assoc] at H
            clear hwb
            generalize w15.heap.size = bO at H ⊢
            try clear C
            try clear w15
            have C := H.cells
            try simp only [cellsOf, apartOf, and_true] at C
            obtain ⟨g, cg, hv, -, -⟩ := World.ownsRow.form (H.at 3 rfl) hlt0
            obtain ⟨rfl, -, rfl⟩ := Value.slice.inj hv
            clear hv
            refine wp_region_zH (by kernel_rfl) (by kernel_rfl) (by kernel_rfl) (by kernel_rfl) (by kernel_rfl) (by dsimp only [List.dropLast]) rfl (fun w => (∀ o, w.cell? ⟨bP, o, none⟩ = [Value.int .i64 p0, .int .i64 p1, .int .i64 p2, .int .i64 p3, .int .i64 p4, .int .i64 p5][o]?) ∧ (∀ o, w.cell? ⟨bO, o, none⟩ = [Value.int .i64 a0, .int .i64 a1, .int .i64 a2, .int .i64 a3, .int .i64 a4, .int .i64 a5, .int .i64 n, .slice s2 xs.length d2][o]?) ∧ w.cell? ⟨g, 0, none⟩ = some (.int .i64 f0)) (H) (fun w0 H _ => ⟨fun o => (Blk.cell (H.at 1 rfl) o).trans (by simp), fun o => (Blk.cell (H.at 5 rfl) o).trans (by simp), (World.ownsRow.cellAt (H.at 3 rfl) 0 (by omega)).trans hfc⟩) ?_
            clear H; intro w17 h0 H hz0
            try clear C
            try simp only [World.size_alloc, List.nil_append, List.cons_append, List.append_assoc] at H hz0
            clear hz0
            try clear w16
            have C := H.cells
            try simp only [cellsOf, apartOf, and_true] at C
            repeat (first | (refine wpX_skip rfl ?_; go_simp) | (refine wpX_free rfl rfl rfl (fun K hK => ?_); go_step; refine hK _ _ ?_; clear hK K))
            (refine wpX_yield rfl rfl (.slice s2 xs.length d2) (fun w hw => by obtain ⟨k0, k1, k2⟩ := hw; go_simp) ?_; go_simp)
            (refine wpX_yield rfl rfl (v6 p0 p1 p2 p3 p4 p5) (fun w hw => by obtain ⟨k0, k1, k2⟩ := hw; go_simp) ?_; go_simp)
            refine wpX_eff rfl rfl (fun _ _ => ?_)
            go_step
            refine (HBK.out _).mono ?_
            rintro _ w18 ⟨rfl, hb⟩
            replace H := H.below hb
            clear hb
            try clear C
            have C := H.cells
            try simp only [cellsOf, apartOf, and_true] at C
            try clear w17
            dsimp only
            go_step
            refine ⟨⟨fun o => (Blk.cell (H.at 1 rfl) o).trans (by simp), fun o => (Blk.cell (H.at 5 rfl) o).trans (by simp), (World.ownsRow.cellAt (H.at 3 rfl) 0 (by omega)).trans hfc⟩, ?_⟩
            repeat (first | (refine wpX_skip rfl ?_; go_simp) | (refine wpX_free rfl rfl rfl (fun K hK => ?_); go_step; refine hK _ _ ?_; clear hK K))
            (refine wpX_yield rfl rfl (.int .i64 p4) (fun w hw => by obtain ⟨k0, k1, k2⟩ := hw; go_simp) ?_; go_simp)
            repeat (first | (refine wpX_skip rfl ?_; go_simp) | (refine wpX_free rfl rfl rfl (fun K hK => ?_); go_step; refine hK _ _ ?_; clear hK K))
            (refine wpX_yield rfl rfl (.int .i64 f0) (fun w hw => by obtain ⟨k0, k1, k2⟩ := hw; go_simp) ?_; go_simp)
            repeat (first | (refine wpX_skip rfl ?_; go_simp) | (refine wpX_free rfl rfl rfl (fun K hK => ?_); go_step; refine hK _ _ ?_; clear hK K))
            refine wpX_eff rfl rfl (fun _ _ => ?_)
            go_step
            go_step
            generalize hwb : World.alloc _ _ = w19
            replace H := HS.eqW hwb H.alloc
            try simp only [World.size_alloc, List.nil_append, List.cons_append, List.append_assoc] at H
            clear hwb
            generalize w18.heap.size = bL at H ⊢
            try clear C
            try clear w18
            have C := H.cells
            try simp only [cellsOf, apartOf, and_true] at C
            refine ⟨⟨fun o => (Blk.cell (H.at 1 rfl) o).trans (by simp), fun o => (Blk.cell (H.at 5 rfl) o).trans (by simp), (World.ownsRow.cellAt (H.at 3 rfl) 0 (by omega)).trans hfc⟩, ?_⟩
            refine wpX_append_H rfl rfl (.tmp 71) (.tmp 80) 24 rfl elemS H 4 rfl rfl 6 rfl rfl rfl rfl (by decide) (by unfold maxLen; omega) (by omega) (fun gz cz w20 HZ hzz => ?_)
            clear H hzz
            have H := HZ
            clear HZ
            try simp only [List.nil_append, List.cons_append, List.append_assoc, List.set_cons_succ, List.set_cons_zero] at H
            try clear C
            try clear w19
            have C := H.cells
            try simp only [cellsOf, apartOf, and_true] at C
            refine ⟨⟨fun o => (Blk.cell (H.at 1 rfl) o).trans (by simp), fun o => (Blk.cell (H.at 5 rfl) o).trans (by simp), (World.ownsRow.cellAt (H.at 3 rfl) 0 (by omega)).trans hfc⟩, ?_⟩
            repeat (first | (refine wpX_skip rfl ?_; go_simp) | (refine wpX_free rfl rfl rfl (fun K hK => ?_); go_step; refine hK _ _ ?_; clear hK K))
            (refine wpX_nil ?_; go_step)
            go_wp2_with fail
            generalize hwb : World.setCell w20 ⟨bO, 7, none⟩ _ = w9
            replace H := HS.eqW hwb (H.setTo (o := 7) (v := .slice (some ⟨gz, 0, none⟩) (xs.length + 1) cz) 5 rfl rfl)
            clear hwb C
            skip
            try clear C
            try simp only [World.size_alloc, List.nil_append, List.cons_append, List.append_assoc] at H
            have C := H.cells
            try simp only [cellsOf, apartOf, and_true] at C
            generalize hwb : (((((((w9.setCell _ _).setCell _ _).setCell _ _).setCell _ _).setCell _ _).setCell _ _).setCell _ _).setCell _ _ = w21
            replace H := HS.eqW hwb (H.putAll (i := 2) rfl (vs := [.int .i64 a0, .int .i64 a1, .int .i64 a2, .int .i64 a3, .int .i64 a4, .int .i64 a5, .int .i64 n, .slice (some ⟨gz, 0, none⟩) (xs.length + 1) cz]) rfl rfl)
            simp only [List.nil_append, List.cons_append, List.append_assoc, List.set_cons_succ, List.set_cons_zero] at H
            clear hwb
            try clear C
            try clear w9
            have C := H.cells
            try simp only [cellsOf, apartOf, and_true] at C
            refine bodyPost_ret (by simp [results, Try.results27, go_sem, C]; try rfl) rfl ?_
            have H := H.givesS 4 (mk := fun v => .tuple #[vSp a0 a1 a2 a3 a4 a5 n v, .int .i64 0]) rfl
            rw [HPH.out, List.length_append, List.flatMap_append]
            exact H
end Go.Proofs.Ytcacgmfihhpliaa
