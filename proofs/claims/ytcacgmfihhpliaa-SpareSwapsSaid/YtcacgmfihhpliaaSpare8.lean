/- Package spare: Swap. -/
import Derived.Test.YtcacgmfihhpliaaSpare7
import Derived.Deep.RegionLaw
import Derived.Deep.RegionWith
namespace Go.Proofs.Ytcacgmfihhpliaa
set_option linter.unusedSimpArgs false
set_option linter.unusedVariables false
open Go.RowKit
set_option maxRecDepth 100000
attribute [local go_sem] lt_more ne_more ne_more'
attribute [local irreducible] wpX wpF Calls

theorem swap_range {a0 a1 a2 a3 a4 a5 n p0 p1 p2 p3 p4 p5 : Int} {xs : List S8} {c : Nat} (h : SpV a0 a1 a2 a3 a4 a5 n xs c) (hp : PV a0 a1 a2 a3 a4 a5 p0 p1 p2 p3 p4 p5) (hr : rwz a4 - n ≤ p4) {sa : Option Addr} (w : World) (hl : Lies w w.heap.size sa 8 xs.length (fun j => sC xs[j]!)) :
    Calls Try.prog 26 #[vSp a0 a1 a2 a3 a4 a5 n (.slice sa xs.length c), v6 p0 p1 p2 p3 p4 p5] w (Gives (.tuple #[vSp 0 0 0 0 0 0 0 (.slice none 0 0), .int .i64 2]) w) := by
  have HL := Lib.hid hl
  clear hl
  have HV := Lib.hid (fun w hl => h.valid (sa := sa) w hl)
  have HP := Lib.hid (fun w => validPlace_yes h.sv hp w)
  have HR := Lib.hid (fun w => by have := reserved_of h.sv h.n0 sa xs.length c p4 w; rw [decide_eq_true hr] at this; exact this : ∀ w, Calls Try.prog 59 #[vSp a0 a1 a2 a3 a4 a5 n (.slice sa xs.length c), .int .i64 p4] w (Gives (.bool true) w))
  have hlen := h.len
  go_enter Try.func26, Try.ntmps26
  have H := HS.start NoD w
  go_wp2_with fail
  refine (HV.out _ (H.alloc.alloc.alloc.liesUp HL.out)).mono ?_
  rintro _ w1 ⟨rfl, hb⟩
  replace H := H.alloc.alloc.alloc.below hb
  clear hb
  try clear C
  try simp only [World.size_alloc, List.nil_append, List.cons_append, List.append_assoc] at H
  generalize w.heap.size + 2 = bR at H ⊢
  generalize w.heap.size + 1 = bP at H ⊢
  generalize w.heap.size = bX at H ⊢
  have C := H.cells
  try simp only [cellsOf, apartOf, and_true] at C
  dsimp only
  go_wp2_with fail
  refine (HP.out _).mono ?_
  rintro _ w2 ⟨rfl, hb⟩
  replace H := H.below hb
  clear hb
  try clear C
  try simp only [World.size_alloc, List.nil_append, List.cons_append, List.append_assoc] at H
  try clear w1
  have C := H.cells
  try simp only [cellsOf, apartOf, and_true] at C
  dsimp only
  go_wp2_with fail
  refine (HR.out _).mono ?_
  rintro _ w3 ⟨rfl, hb⟩
  replace H := H.below hb
  clear hb
  try clear C
  try simp only [World.size_alloc, List.nil_append, List.cons_append, List.append_assoc] at H
  try clear w2
  have C := H.cells
  try simp only [cellsOf, apartOf, and_true] at C
  dsimp only
  go_wp2_with fail
  generalize hwb : (((((((w3.setCell _ _).setCell _ _).setCell _ _).setCell _ _).setCell _ _).setCell _ _).setCell _ _).setCell _ _ = w4
  replace H := HS.eqW hwb (H.putAll (i := 2) rfl (vs := [.int .i64 0, .int .i64 0, .int .i64 0, .int .i64 0, .int .i64 0, .int .i64 0, .int .i64 0, .slice none 0 0]) rfl rfl)
  simp only [List.nil_append, List.cons_append, List.append_assoc, List.set_cons_succ, List.set_cons_zero] at H
  clear hwb
  try clear C
  try clear w3
  have C := H.cells
  try simp only [cellsOf, apartOf, and_true] at C
  refine bodyPost_ret (by simp [results, Try.results26, go_sem, C]; try rfl) rfl ?_
  exact ⟨rfl, H.done⟩
theorem swap_twice {a0 a1 a2 a3 a4 a5 n p0 p1 p2 p3 p4 p5 : Int} {xs : List S8} {c : Nat} (h : SpV a0 a1 a2 a3 a4 a5 n xs c) (hp : PV a0 a1 a2 a3 a4 a5 p0 p1 p2 p3 p4 p5) (hr : ¬ rwz a4 - n ≤ p4) (ht : xs.any (holdsR p0 p1 p2 p3 p4) = true) {sa : Option Addr} (w : World) (hl : Lies w w.heap.size sa 8 xs.length (fun j => sC xs[j]!)) :
    Calls Try.prog 26 #[vSp a0 a1 a2 a3 a4 a5 n (.slice sa xs.length c), v6 p0 p1 p2 p3 p4 p5] w (Gives (.tuple #[vSp 0 0 0 0 0 0 0 (.slice none 0 0), .int .i64 8]) w) := by
  have HL := Lib.hid hl
  clear hl
  have HV := Lib.hid (fun w hl => h.valid (sa := sa) w hl)
  have HP := Lib.hid (fun w => validPlace_yes h.sv hp w)
  have HR := Lib.hid (fun w => by have := reserved_of h.sv h.n0 sa xs.length c p4 w; rw [decide_eq_false hr] at this; exact this : ∀ w, Calls Try.prog 59 #[vSp a0 a1 a2 a3 a4 a5 n (.slice sa xs.length c), .int .i64 p4] w (Gives (.bool false) w))
  have hlen := h.len
  go_enter Try.func26, Try.ntmps26
  have H := HS.start NoD w
  go_wp2_with fail
  refine (HV.out _ (H.alloc.alloc.alloc.liesUp HL.out)).mono ?_
  rintro _ w1 ⟨rfl, hb⟩
  replace H := H.alloc.alloc.alloc.below hb
  clear hb
  try clear C
  try simp only [World.size_alloc, List.nil_append, List.cons_append, List.append_assoc] at H
  generalize w.heap.size + 2 = bR at H ⊢
  generalize w.heap.size + 1 = bP at H ⊢
  generalize w.heap.size = bX at H ⊢
  have C := H.cells
  try simp only [cellsOf, apartOf, and_true] at C
  dsimp only
  go_wp2_with fail
  refine (HP.out _).mono ?_
  rintro _ w2 ⟨rfl, hb⟩
  replace H := H.below hb
  clear hb
  try clear C
  try simp only [World.size_alloc, List.nil_append, List.cons_append, List.append_assoc] at H
  try clear w1
  have C := H.cells
  try simp only [cellsOf, apartOf, and_true] at C
  dsimp only
  go_wp2_with fail
  refine (HR.out _).mono ?_
  rintro _ w3 ⟨rfl, hb⟩
  replace H := H.below hb
  clear hb
  try clear C
  try simp only [World.size_alloc, List.nil_append, List.cons_append, List.append_assoc] at H
  try clear w2
  have C := H.cells
  try simp only [cellsOf, apartOf, and_true] at C
  dsimp only
  go_wp2_with fail
  have hcon := containsS 61 (fun _ _ => rfl) #[.pointer (some ⟨bP, 0, none⟩)] (holdsR p0 p1 p2 p3 p4) c (by omega) w3 (H.liesUp HL.out) (fun W x hb => swap1_of x p0 p1 p2 p3 p4 p5 bP W (Blk.below (H.at 1 rfl) hb))
  rw [ht] at hcon
  refine (hcon).mono ?_
  rintro _ w4 ⟨rfl, hb⟩
  replace H := H.below hb
  clear hb
  try clear C
  try simp only [World.size_alloc, List.nil_append, List.cons_append, List.append_assoc] at H
  try clear w3
  have C := H.cells
  try simp only [cellsOf, apartOf, and_true] at C
  dsimp only
  go_wp2_with fail
  generalize hwb : (((((((w4.setCell _ _).setCell _ _).setCell _ _).setCell _ _).setCell _ _).setCell _ _).setCell _ _).setCell _ _ = w5
  replace H := HS.eqW hwb (H.putAll (i := 2) rfl (vs := [.int .i64 0, .int .i64 0, .int .i64 0, .int .i64 0, .int .i64 0, .int .i64 0, .int .i64 0, .slice none 0 0]) rfl rfl)
  simp only [List.nil_append, List.cons_append, List.append_assoc, List.set_cons_succ, List.set_cons_zero] at H
  clear hwb
  try clear C
  try clear w4
  have C := H.cells
  try simp only [cellsOf, apartOf, and_true] at C
  refine bodyPost_ret (by simp [results, Try.results26, go_sem, C]; try rfl) rfl ?_
  exact ⟨rfl, H.done⟩
theorem swap_none {a0 a1 a2 a3 a4 a5 n p0 p1 p2 p3 p4 p5 : Int} {xs : List S8} {c : Nat} (h : SpV a0 a1 a2 a3 a4 a5 n xs c) (hp : PV a0 a1 a2 a3 a4 a5 p0 p1 p2 p3 p4 p5) (hr : ¬ rwz a4 - n ≤ p4) (ht : xs.any (holdsR p0 p1 p2 p3 p4) = false) (hf : (freeK (rwz a4 - n) p0 p1 p2 p3 xs n.toNat).length = 0) {sa : Option Addr} (w : World) (hl : Lies w w.heap.size sa 8 xs.length (fun j => sC xs[j]!)) :
    Calls Try.prog 26 #[vSp a0 a1 a2 a3 a4 a5 n (.slice sa xs.length c), v6 p0 p1 p2 p3 p4 p5] w (Gives (.tuple #[vSp 0 0 0 0 0 0 0 (.slice none 0 0), .int .i64 44]) w) := by
  have HL := Lib.hid hl
  clear hl
  have HV := Lib.hid (fun w hl => h.valid (sa := sa) w hl)
  have HP := Lib.hid (fun w => validPlace_yes h.sv hp w)
  have HR := Lib.hid (fun w => by have := reserved_of h.sv h.n0 sa xs.length c p4 w; rw [decide_eq_false hr] at this; exact this : ∀ w, Calls Try.prog 59 #[vSp a0 a1 a2 a3 a4 a5 n (.slice sa xs.length c), .int .i64 p4] w (Gives (.bool false) w))
  have HU := Lib.hid (fun w hl => unused_of h.sv h.n0 p0 p1 p2 p3 p4 p5 (sa := sa) c (xs := xs) (by have := h.len; omega) w hl)
  have hfl := freeK_len (rwz a4 - n) p0 p1 p2 p3 xs n.toNat
  have hz := rwz_in h.sv
  have hn0 := h.n0
  generalize freeK (rwz a4 - n) p0 p1 p2 p3 xs n.toNat = fr at *
  have hlen := h.len
  go_enter Try.func26, Try.ntmps26
  have H := HS.start NoD w
  go_wp2_with fail
  refine (HV.out _ (H.alloc.alloc.alloc.liesUp HL.out)).mono ?_
  rintro _ w1 ⟨rfl, hb⟩
  replace H := H.alloc.alloc.alloc.below hb
  clear hb
  try clear C
  try simp only [World.size_alloc, List.nil_append, List.cons_append, List.append_assoc] at H
  generalize w.heap.size + 2 = bR at H ⊢
  generalize w.heap.size + 1 = bP at H ⊢
  generalize w.heap.size = bX at H ⊢
  have C := H.cells
  try simp only [cellsOf, apartOf, and_true] at C
  dsimp only
  go_wp2_with fail
  refine (HP.out _).mono ?_
  rintro _ w2 ⟨rfl, hb⟩
  replace H := H.below hb
  clear hb
  try clear C
  try simp only [World.size_alloc, List.nil_append, List.cons_append, List.append_assoc] at H
  try clear w1
  have C := H.cells
  try simp only [cellsOf, apartOf, and_true] at C
  dsimp only
  go_wp2_with fail
  refine (HR.out _).mono ?_
  rintro _ w3 ⟨rfl, hb⟩
  replace H := H.below hb
  clear hb
  try clear C
  try simp only [World.size_alloc, List.nil_append, List.cons_append, List.append_assoc] at H
  try clear w2
  have C := H.cells
  try simp only [cellsOf, apartOf, and_true] at C
  dsimp only
  go_wp2_with fail
  have hcon := containsS 61 (fun _ _ => rfl) #[.pointer (some ⟨bP, 0, none⟩)] (holdsR p0 p1 p2 p3 p4) c (by omega) w3 (H.liesUp HL.out) (fun W x hb => swap1_of x p0 p1 p2 p3 p4 p5 bP W (Blk.below (H.at 1 rfl) hb))
  rw [ht] at hcon
  refine (hcon).mono ?_
  rintro _ w4 ⟨rfl, hb⟩
  replace H := H.below hb
  clear hb
  try clear C
  try simp only [World.size_alloc, List.nil_append, List.cons_append, List.append_assoc] at H
  try clear w3
  have C := H.cells
  try simp only [cellsOf, apartOf, and_true] at C
  dsimp only
  go_wp2_with fail
  refine (HU.out _ (H.liesUp HL.out)).mono ?_
  rintro _ w5 ⟨s1, d1, rfl, hr, hb⟩
  replace H := (H).getsRow hb hr
  clear hb hr
  try clear C
  try simp only [World.size_alloc, List.nil_append, List.cons_append, List.append_assoc] at H
  try clear w4
  have C := H.cells
  try simp only [cellsOf, apartOf, and_true] at C
  dsimp only
  go_wp2_with fail
  generalize hwb : (((((((w5.setCell _ _).setCell _ _).setCell _ _).setCell _ _).setCell _ _).setCell _ _).setCell _ _).setCell _ _ = w6
  replace H := HS.eqW hwb (H.putAll (i := 2) rfl (vs := [.int .i64 0, .int .i64 0, .int .i64 0, .int .i64 0, .int .i64 0, .int .i64 0, .int .i64 0, .slice none 0 0]) rfl rfl)
  simp only [List.nil_append, List.cons_append, List.append_assoc, List.set_cons_succ, List.set_cons_zero] at H
  clear hwb
  try clear C
  try clear w5
  have C := H.cells
  try simp only [cellsOf, apartOf, and_true] at C
  refine bodyPost_ret (by simp [results, Try.results26, go_sem, C]; try rfl) rfl ?_
  exact ⟨rfl, H.done⟩
theorem swap_full {a0 a1 a2 a3 a4 a5 n p0 p1 p2 p3 p4 p5 : Int} {xs : List S8} {c : Nat} (h : SpV a0 a1 a2 a3 a4 a5 n xs c) (hp : PV a0 a1 a2 a3 a4 a5 p0 p1 p2 p3 p4 p5) (hr : ¬ rwz a4 - n ≤ p4) (ht : xs.any (holdsR p0 p1 p2 p3 p4) = false) (hf : (freeK (rwz a4 - n) p0 p1 p2 p3 xs n.toNat).length ≠ 0) (h16 : xs.length = 16) {sa : Option Addr} (w : World) (hl : Lies w w.heap.size sa 8 xs.length (fun j => sC xs[j]!)) :
    Calls Try.prog 26 #[vSp a0 a1 a2 a3 a4 a5 n (.slice sa xs.length c), v6 p0 p1 p2 p3 p4 p5] w (Gives (.tuple #[vSp 0 0 0 0 0 0 0 (.slice none 0 0), .int .i64 16]) w) := by
  have HL := Lib.hid hl
  have H16 := Lib.hid h16
  clear hl h16
  have HV := Lib.hid (fun w hl => h.valid (sa := sa) w hl)
  have HP := Lib.hid (fun w => validPlace_yes h.sv hp w)
  have HR := Lib.hid (fun w => by have := reserved_of h.sv h.n0 sa xs.length c p4 w; rw [decide_eq_false hr] at this; exact this : ∀ w, Calls Try.prog 59 #[vSp a0 a1 a2 a3 a4 a5 n (.slice sa xs.length c), .int .i64 p4] w (Gives (.bool false) w))
  have HU := Lib.hid (fun w hl => unused_of h.sv h.n0 p0 p1 p2 p3 p4 p5 (sa := sa) c (xs := xs) (by have := h.len; omega) w hl)
  have hfl := freeK_len (rwz a4 - n) p0 p1 p2 p3 xs n.toNat
  have hz := rwz_in h.sv
  have hn0 := h.n0
  generalize freeK (rwz a4 - n) p0 p1 p2 p3 xs n.toNat = fr at *
  have hlen := h.len
  go_enter Try.func26, Try.ntmps26
  have H := HS.start NoD w
  go_wp2_with fail
  refine (HV.out _ (H.alloc.alloc.alloc.liesUp HL.out)).mono ?_
  rintro _ w1 ⟨rfl, hb⟩
  replace H := H.alloc.alloc.alloc.below hb
  clear hb
  try clear C
  try simp only [World.size_alloc, List.nil_append, List.cons_append, List.append_assoc] at H
  generalize w.heap.size + 2 = bR at H ⊢
  generalize w.heap.size + 1 = bP at H ⊢
  generalize w.heap.size = bX at H ⊢
  have C := H.cells
  try simp only [cellsOf, apartOf, and_true] at C
  dsimp only
  go_wp2_with fail
  refine (HP.out _).mono ?_
  rintro _ w2 ⟨rfl, hb⟩
  replace H := H.below hb
  clear hb
  try clear C
  try simp only [World.size_alloc, List.nil_append, List.cons_append, List.append_assoc] at H
  try clear w1
  have C := H.cells
  try simp only [cellsOf, apartOf, and_true] at C
  dsimp only
  go_wp2_with fail
  refine (HR.out _).mono ?_
  rintro _ w3 ⟨rfl, hb⟩
  replace H := H.below hb
  clear hb
  try clear C
  try simp only [World.size_alloc, List.nil_append, List.cons_append, List.append_assoc] at H
  try clear w2
  have C := H.cells
  try simp only [cellsOf, apartOf, and_true] at C
  dsimp only
  go_wp2_with fail
  have hcon := containsS 61 (fun _ _ => rfl) #[.pointer (some ⟨bP, 0, none⟩)] (holdsR p0 p1 p2 p3 p4) c (by omega) w3 (H.liesUp HL.out) (fun W x hb => swap1_of x p0 p1 p2 p3 p4 p5 bP W (Blk.below (H.at 1 rfl) hb))
  rw [ht] at hcon
  refine (hcon).mono ?_
  rintro _ w4 ⟨rfl, hb⟩
  replace H := H.below hb
  clear hb
  try clear C
  try simp only [World.size_alloc, List.nil_append, List.cons_append, List.append_assoc] at H
  try clear w3
  have C := H.cells
  try simp only [cellsOf, apartOf, and_true] at C
  dsimp only
  go_wp2_with fail
  refine (HU.out _ (H.liesUp HL.out)).mono ?_
  rintro _ w5 ⟨s1, d1, rfl, hr, hb⟩
  replace H := (H).getsRow hb hr
  clear hb hr
  try clear C
  try simp only [World.size_alloc, List.nil_append, List.cons_append, List.append_assoc] at H
  try clear w4
  have C := H.cells
  try simp only [cellsOf, apartOf, and_true] at C
  dsimp only
  have h16 : (xs.length : Int) = 16 := by have := H16.out; omega
  go_wp2_with fail
  generalize hwb : (((((((w5.setCell _ _).setCell _ _).setCell _ _).setCell _ _).setCell _ _).setCell _ _).setCell _ _).setCell _ _ = w6
  replace H := HS.eqW hwb (H.putAll (i := 2) rfl (vs := [.int .i64 0, .int .i64 0, .int .i64 0, .int .i64 0, .int .i64 0, .int .i64 0, .int .i64 0, .slice none 0 0]) rfl rfl)
  simp only [List.nil_append, List.cons_append, List.append_assoc, List.set_cons_succ, List.set_cons_zero] at H
  clear hwb
  try clear C
  try clear w5
  have C := H.cells
  try simp only [cellsOf, apartOf, and_true] at C
  refine bodyPost_ret (by simp [results, Try.results26, go_sem, C]; try rfl) rfl ?_
  exact ⟨rfl, H.done⟩
end Go.Proofs.Ytcacgmfihhpliaa
