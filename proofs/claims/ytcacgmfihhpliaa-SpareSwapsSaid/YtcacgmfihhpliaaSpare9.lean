/- Package spare: Swap, where it can. -/
import Derived.Test.YtcacgmfihhpliaaSpare8
import Derived.Test.YtcacgmfihhpliaaZed
namespace Go.Proofs.Ytcacgmfihhpliaa
set_option linter.unusedSimpArgs false
set_option linter.unusedVariables false
open Go.RowKit
set_option maxRecDepth 100000
attribute [local go_sem] lt_more ne_more ne_more'
attribute [local irreducible] wpX wpF Calls

set_option maxHeartbeats 8000000 in
theorem swap_ok_any {a0 a1 a2 a3 a4 a5 n p0 p1 p2 p3 p4 p5 : Int} {xs : List S8} {c : Nat} (h : SpV a0 a1 a2 a3 a4 a5 n xs c) (hp : PV a0 a1 a2 a3 a4 a5 p0 p1 p2 p3 p4 p5) (hr : ¬ rwz a4 - n ≤ p4) (ht : xs.any (holdsR p0 p1 p2 p3 p4) = false) {f0 : Int} {fs : List Int} (hf : freeK (rwz a4 - n) p0 p1 p2 p3 xs n.toNat = f0 :: fs) (h16 : xs.length < 16) {sa : Option Addr} (w : World) (hl : Lies w w.heap.size sa 8 xs.length (fun j => sC xs[j]!)) :
    Calls Try.prog 26 #[vSp a0 a1 a2 a3 a4 a5 n (.slice sa xs.length c), v6 p0 p1 p2 p3 p4 p5] w (GivesS (fun v => .tuple #[vSp a0 a1 a2 a3 a4 a5 n v, .int .i64 0]) 38 8 (xs ++ [(⟨p0, p1, p2, p3, 0, 0, p4, f0⟩ : S8)]).length ((xs ++ [(⟨p0, p1, p2, p3, 0, 0, p4, f0⟩ : S8)]).flatMap sC) w) := by
  have HL := Lib.hid hl
  clear hl
  have HV := Lib.hid (fun w hl => h.valid (sa := sa) w hl)
  have HP := Lib.hid (fun w => validPlace_yes h.sv hp w)
  have HR := Lib.hid (fun w => by have := reserved_of h.sv h.n0 sa xs.length c p4 w; rw [decide_eq_false hr] at this; exact this : ∀ w, Calls Try.prog 59 #[vSp a0 a1 a2 a3 a4 a5 n (.slice sa xs.length c), .int .i64 p4] w (Gives (.bool false) w))
  have HU := Lib.hid (fun w hl => unused_of h.sv h.n0 p0 p1 p2 p3 p4 p5 (sa := sa) c (xs := xs) (by have := h.len; omega) w hl)
  have hfl := freeK_len (rwz a4 - n) p0 p1 p2 p3 xs n.toNat
  have hz := rwz_in h.sv
  have hn0 := h.n0
  rw [hf] at HU hfl
  have HCP := Lib.hid (fun w hl => scopy_any a0 a1 a2 a3 a4 a5 n (sa := sa) c (xs := xs) (by omega) w hl)
  have HBK := Lib.hid (fun w => sbank_of p0 p1 p2 p3 p4 p5 w)
  have hlen := h.len
  obtain ⟨i, i1, i2, i3, i4⟩ := elemS.hi
  have hfn : (f0 :: fs).length ≤ 4096 := by omega
  clear hfl hf hz hn0
  go_enter Try.func26, Try.ntmps26
  have H := HS.start NoD w
  go_wp2_with fail
  refine (HV.out _ (H.alloc.alloc.alloc.liesUp HL.out)).mono ?_
  rintro _ w1 ⟨rfl, hb⟩
  replace H := H.alloc.alloc.alloc.below hb
  clear hb
  try clear C
  try simp only [World.size_alloc, List.nil_append, List.cons_append, List.append_assoc] at H
  generalize w.heap.size + 2 = bR at H ⊢
  generalize w.heap.size + 1 = bP at H ⊢
  generalize w.heap.size = bX at H ⊢
  have C := H.cells
  try simp only [cellsOf, apartOf, and_true] at C
  dsimp only
  go_wp2_with fail
  refine (HP.out _).mono ?_
  rintro _ w2 ⟨rfl, hb⟩
  replace H := H.below hb
  clear hb
  try clear C
  try simp only [World.size_alloc, List.nil_append, List.cons_append, List.append_assoc] at H
  try clear w1
  have C := H.cells
  try simp only [cellsOf, apartOf, and_true] at C
  dsimp only
  go_wp2_with fail
  refine (HR.out _).mono ?_
  rintro _ w3 ⟨rfl, hb⟩
  replace H := H.below hb
  clear hb
  try clear C
  try simp only [World.size_alloc, List.nil_append, List.cons_append, List.append_assoc] at H
  try clear w2
  have C := H.cells
  try simp only [cellsOf, apartOf, and_true] at C
  dsimp only
  go_wp2_with fail
  have hcon := containsS 61 (fun _ _ => rfl) #[.pointer (some ⟨bP, 0, none⟩)] (holdsR p0 p1 p2 p3 p4) c (by omega) w3 (H.liesUp HL.out) (fun W x hb => swap1_of x p0 p1 p2 p3 p4 p5 bP W (Blk.below (H.at 1 rfl) hb))
  rw [ht] at hcon
  refine (hcon).mono ?_
  rintro _ w4 ⟨rfl, hb⟩
  replace H := H.below hb
  clear hb
  try clear C
  try simp only [World.size_alloc, List.nil_append, List.cons_append, List.append_assoc] at H
  try clear w3
  have C := H.cells
  try simp only [cellsOf, apartOf, and_true] at C
  dsimp only
  go_wp2_with fail
  clear hcon
  refine (HU.out _ (H.liesUp HL.out)).mono ?_
  rintro _ w5 ⟨s1, d1, rfl, hr, hb⟩
  replace H := (H).getsRow hb hr
  clear hb hr
  try clear C
  try simp only [World.size_alloc, List.nil_append, List.cons_append, List.append_assoc] at H
  try clear w4
  have C := H.cells
  try simp only [cellsOf, apartOf, and_true] at C
  dsimp only
  have hlt1 : (0 : Int) < ((f0 :: fs).length : Int) := by simp only [List.length_cons]; omega
  have hne0 : ¬ ((f0 :: fs).length : Int) = 0 := by omega
  have hne16 : ¬ (xs.length : Int) = 16 := by omega
  generalize hfe : f0 :: fs = fr at *
  have HFE := Lib.hid hfe
  clear hfe
  go_wp2_with fail
  refine (HCP.out _ (H.liesUp HL.out)).mono ?_
  rintro _ w6 ⟨s2, d2, rfl, hr, hb⟩
  replace H := (H).getsRow hb hr
  clear hb hr
  try clear C
  try simp only [World.size_alloc, List.nil_append, List.cons_append, List.append_assoc] at H
  try clear w5
  have C := H.cells
  try simp only [cellsOf, apartOf, and_true] at C
  dsimp only
  go_upto_region 13 with fail
  generalize hwb : w6.alloc _ = w7
  replace H := HS.eqW hwb H.alloc
  try simp only [World.size_alloc, List.nil_append, List.cons_append, List.append_assoc] at H
  clear hwb
  generalize w6.heap.size = bO at H ⊢
  try clear C
  try clear w6
  have C := H.cells
  try simp only [cellsOf, apartOf, and_true] at C
  have hlt0 : 0 < fr.length := by omega
  obtain ⟨g, cg, hv, -, -⟩ := World.ownsRow.form (H.at 3 rfl) hlt0
  obtain ⟨rfl, -, rfl⟩ := Value.slice.inj hv
  clear hv
  have hfc : (fr.flatMap iC)[0]? = some (.int .i64 f0) := by rw [← HFE.out]; rfl
  refine wp_region_zH (by kernel_rfl) (by kernel_rfl) (by kernel_rfl) (by kernel_rfl) (by kernel_rfl) (by dsimp only [List.dropLast]) rfl (fun w => (∀ o, w.cell? ⟨bP, o, none⟩ = [Value.int .i64 p0, .int .i64 p1, .int .i64 p2, .int .i64 p3, .int .i64 p4, .int .i64 p5][o]?) ∧ (∀ o, w.cell? ⟨bO, o, none⟩ = [Value.int .i64 a0, .int .i64 a1, .int .i64 a2, .int .i64 a3, .int .i64 a4, .int .i64 a5, .int .i64 n, .slice s2 xs.length d2][o]?) ∧ w.cell? ⟨g, 0, none⟩ = some (.int .i64 f0)) (H) (fun w0 H _ => ⟨fun o => (Blk.cell (H.at 1 rfl) o).trans (by simp), fun o => (Blk.cell (H.at 5 rfl) o).trans (by simp), (World.ownsRow.cellAt (H.at 3 rfl) 0 (by omega)).trans hfc⟩) ?_
  clear H; intro w8 h0 H hz0
  try clear C
  try simp only [World.size_alloc, List.nil_append, List.cons_append, List.append_assoc] at H hz0
  clear hz0
  try clear w7
  have C := H.cells
  try simp only [cellsOf, apartOf, and_true] at C
  repeat (first | (refine wpX_skip rfl ?_; go_simp) | (refine wpX_free rfl rfl rfl (fun K hK => ?_); go_step; refine hK _ _ ?_; clear hK K))
  (refine wpX_yield rfl rfl (.slice s2 xs.length d2) (fun w hw => by obtain ⟨k0, k1, k2⟩ := hw; go_simp) ?_; go_simp)
  (refine wpX_yield rfl rfl (v6 p0 p1 p2 p3 p4 p5) (fun w hw => by obtain ⟨k0, k1, k2⟩ := hw; go_simp) ?_; go_simp)
  refine wpX_eff rfl rfl (fun _ _ => ?_)
  go_step
  refine (HBK.out _).mono ?_
  rintro _ w9 ⟨rfl, hb⟩
  replace H := H.below hb
  clear hb
  try clear C
  have C := H.cells
  try simp only [cellsOf, apartOf, and_true] at C
  try clear w8
  dsimp only
  go_step
  refine ⟨⟨fun o => (Blk.cell (H.at 1 rfl) o).trans (by simp), fun o => (Blk.cell (H.at 5 rfl) o).trans (by simp), (World.ownsRow.cellAt (H.at 3 rfl) 0 (by omega)).trans hfc⟩, ?_⟩
  repeat (first | (refine wpX_skip rfl ?_; go_simp) | (refine wpX_free rfl rfl rfl (fun K hK => ?_); go_step; refine hK _ _ ?_; clear hK K))
  (refine wpX_yield rfl rfl (.int .i64 p4) (fun w hw => by obtain ⟨k0, k1, k2⟩ := hw; go_simp) ?_; go_simp)
  repeat (first | (refine wpX_skip rfl ?_; go_simp) | (refine wpX_free rfl rfl rfl (fun K hK => ?_); go_step; refine hK _ _ ?_; clear hK K))
  (refine wpX_yield rfl rfl (.int .i64 f0) (fun w hw => by obtain ⟨k0, k1, k2⟩ := hw; go_simp) ?_; go_simp)
  repeat (first | (refine wpX_skip rfl ?_; go_simp) | (refine wpX_free rfl rfl rfl (fun K hK => ?_); go_step; refine hK _ _ ?_; clear hK K))
  refine wpX_eff rfl rfl (fun _ _ => ?_)
  go_step
  go_step
  generalize hwb : World.alloc _ _ = w10
  replace H := HS.eqW hwb H.alloc
  try simp only [World.size_alloc, List.nil_append, List.cons_append, List.append_assoc] at H
  clear hwb
  generalize w9.heap.size = bL at H ⊢
  try clear C
  try clear w9
  have C := H.cells
  try simp only [cellsOf, apartOf, and_true] at C
  refine ⟨⟨fun o => (Blk.cell (H.at 1 rfl) o).trans (by simp), fun o => (Blk.cell (H.at 5 rfl) o).trans (by simp), (World.ownsRow.cellAt (H.at 3 rfl) 0 (by omega)).trans hfc⟩, ?_⟩
  refine wpX_append_H rfl rfl (.tmp 49) (.tmp 58) 24 rfl elemS H 4 rfl rfl 6 rfl rfl rfl rfl (by decide) (by unfold maxLen; omega) (by omega) (fun gz cz w11 HZ hzz => ?_)
  clear H hzz
  have H := HZ
  clear HZ
  try simp only [List.nil_append, List.cons_append, List.append_assoc, List.set_cons_succ, List.set_cons_zero] at H
  try clear C
  try clear w10
  have C := H.cells
  try simp only [cellsOf, apartOf, and_true] at C
  refine ⟨⟨fun o => (Blk.cell (H.at 1 rfl) o).trans (by simp), fun o => (Blk.cell (H.at 5 rfl) o).trans (by simp), (World.ownsRow.cellAt (H.at 3 rfl) 0 (by omega)).trans hfc⟩, ?_⟩
  repeat (first | (refine wpX_skip rfl ?_; go_simp) | (refine wpX_free rfl rfl rfl (fun K hK => ?_); go_step; refine hK _ _ ?_; clear hK K))
  (refine wpX_nil ?_; go_step)
  go_wp2_with fail
  generalize hwb : World.setCell w11 ⟨bO, 7, none⟩ _ = w9
  replace H := HS.eqW hwb (H.setTo (o := 7) (v := .slice (some ⟨gz, 0, none⟩) (xs.length + 1) cz) 5 rfl rfl)
  clear hwb C
  skip
  try clear C
  try simp only [World.size_alloc, List.nil_append, List.cons_append, List.append_assoc] at H
  have C := H.cells
  try simp only [cellsOf, apartOf, and_true] at C
  generalize hwb : (((((((w9.setCell _ _).setCell _ _).setCell _ _).setCell _ _).setCell _ _).setCell _ _).setCell _ _).setCell _ _ = w12
  replace H := HS.eqW hwb (H.putAll (i := 2) rfl (vs := [.int .i64 a0, .int .i64 a1, .int .i64 a2, .int .i64 a3, .int .i64 a4, .int .i64 a5, .int .i64 n, .slice (some ⟨gz, 0, none⟩) (xs.length + 1) cz]) rfl rfl)
  simp only [List.nil_append, List.cons_append, List.append_assoc, List.set_cons_succ, List.set_cons_zero] at H
  clear hwb
  try clear C
  try clear w9
  have C := H.cells
  try simp only [cellsOf, apartOf, and_true] at C
  refine bodyPost_ret (by simp [results, Try.results26, go_sem, C]; try rfl) rfl ?_
  have H := H.givesS 4 (mk := fun v => .tuple #[vSp a0 a1 a2 a3 a4 a5 n v, .int .i64 0]) rfl
  rw [List.length_append, List.flatMap_append]
  exact H
theorem swap_ok {a0 a1 a2 a3 a4 a5 n p0 p1 p2 p3 p4 p5 : Int} {xs : List S8} {c : Nat} (h : SpV a0 a1 a2 a3 a4 a5 n xs c) (hp : PV a0 a1 a2 a3 a4 a5 p0 p1 p2 p3 p4 p5) (hr : ¬ rwz a4 - n ≤ p4) (ht : xs.any (holdsR p0 p1 p2 p3 p4) = false) {f0 : Int} {fs : List Int} (hf : freeK (rwz a4 - n) p0 p1 p2 p3 xs n.toNat = f0 :: fs) (h16 : xs.length < 16) {sa : Option Addr} (h0 : xs = [] → sa = none) (w : World) (hl : Lies w w.heap.size sa 8 xs.length (fun j => sC xs[j]!)) :
    Calls Try.prog 26 #[vSp a0 a1 a2 a3 a4 a5 n (.slice sa xs.length c), v6 p0 p1 p2 p3 p4 p5] w (GivesS (fun v => .tuple #[vSp a0 a1 a2 a3 a4 a5 n v, .int .i64 0]) 38 8 (xs ++ [(⟨p0, p1, p2, p3, 0, 0, p4, f0⟩ : S8)]).length ((xs ++ [(⟨p0, p1, p2, p3, 0, 0, p4, f0⟩ : S8)]).flatMap sC) w) :=
  swap_ok_any h hp hr ht hf h16 w hl
end Go.Proofs.Ytcacgmfihhpliaa
