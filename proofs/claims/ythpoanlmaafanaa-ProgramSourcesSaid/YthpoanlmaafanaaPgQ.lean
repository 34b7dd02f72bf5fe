/- memfaultref40.Same, SameUses: one operation is the same as itself; lists of uses that are one. -/
import Derived.Test.YthpoanlmaafanaaPgX
import Derived.Laws.BytesArg
namespace Go.Proofs.Ythpoanlmaafanaa
set_option linter.unusedSimpArgs false
set_option linter.unusedVariables false
open Go.RowKit
set_option maxRecDepth 100000
attribute [local irreducible] wpX wpF Calls

/-- An operation's data lie in memory. -/
def DOk (w : World) (x : Ox) : Prop := ∃ bs : List Int, bs.length = x.n ∧ w.ownsRow 0 5 1 (.slice x.sa x.n x.c) x.n (bs.flatMap bC)
theorem dataK_at {l : List Ox} {w : World} (h : dataK l w) {x : Ox} (hx : x ∈ l) : DOk w x := h x hx
theorem DOk.below {w w' : World} {x : Ox} (h : DOk w x) (hb : Below w.heap.size w w') : DOk w' x := by
  obtain ⟨bs, h1, h2⟩ := h
  have h3 : (Item.row (.slice x.sa x.n x.c) 5 1 x.n (bs.flatMap bC)).ok w := h2
  exact ⟨bs, h1, Item.keep h3 (fun k hk => hb.block k (Item.lt h3 hk)) (fun k hk => absurd hk (Nat.not_lt_zero _))⟩
theorem bC_getD (bs : List Int) (i : Nat) (h : i < bs.length) : (bs.flatMap bC)[i]? = some (.int .u8 (bs.getD i 0)) := by
  have h1 := flat_get bC_len bs i 0 (.int .u8 bs[i]!) h rfl
  rw [Nat.mul_one, Nat.add_zero] at h1
  rw [h1, getElem!_pos bs i h]
  simp [List.getD, List.getElem?_eq_getElem h]
theorem str_of {w : World} {x : Ox} (h : DOk w x) : ∃ s : ByteArray, (convert 36 9 (.slice x.sa x.n x.c)).run Try.prog w = .ok (.string s) w := by
  obtain ⟨bs, h1, hr⟩ := h
  have hs : Try.prog.underlying 36 = some (.slice 5) := by kernel_rfl
  have he : Try.prog.underlying 5 = some (.int .u8) := by kernel_rfl
  have hd : Try.prog.underlying 9 = some .string := by kernel_rfl
  rcases hr.2 with ⟨h2, h3⟩ | ⟨g, cap, cur, hv, hg, hb, h4⟩
  · injection h2 with e1 e2 e3
    rw [e1]
    exact ⟨_, run_convert_bytes_nil w 36 5 hs he _ _ _ hd⟩
  · injection hv with e1 e2 e3
    rw [e1]
    refine ⟨_, run_convert_bytes_arg w 36 5 hs he g 0 x.n x.c bs h1 (fun i hi => ?_) _ hd⟩
    rw [e1] at hr
    rw [Nat.zero_add, World.ownsRow.cellAt hr i (by omega)]
    exact bC_getD bs i (by omega)
set_option maxHeartbeats 4000000 in
theorem same40_any (x : Ox) (w : World) (h : DOk w x) : Calls Try.prog 18 #[vOx x, vOx x] w (Gives (.bool true) w) := by
  have HD := Lib.hid h
  clear h
  have HST := Lib.hid (fun w h => str_of (w := w) (x := x) h)
  have HB := Lib.hid (fun w' hb => HD.out.below (w' := w') hb)
  obtain ⟨k, p, g, wd, o, sa, n, c⟩ := x
  dsimp only at HST
  show Calls Try.prog 18 #[.agg #[.int .i64 k, .int .i64 p, .int .i64 g, .int .i64 wd, .int .i64 o, .slice sa n c], .agg #[.int .i64 k, .int .i64 p, .int .i64 g, .int .i64 wd, .int .i64 o, .slice sa n c]] w _
  go_enter Try.func18, Try.ntmps18
  have H := HS.start NoD w
  go_upto_region 1 with fail
  generalize hwb : (w.alloc _).alloc _ = w1
  replace H := HS.eqW hwb H.alloc.alloc
  try simp only [World.size_alloc, List.nil_append, List.cons_append, List.append_assoc] at H
  clear hwb
  generalize w.heap.size + 1 = bB at H ⊢
  generalize w.heap.size = bA at H ⊢
  try clear C
  have C := H.cells
  try simp only [cellsOf, cellsM, apartOf, apartM, and_true] at C
  obtain ⟨s, hs⟩ := HST.out _ (HB.out w1 H.done)
  clear HST HB HD
  go_wp2_with fail
  go_ret
  exact ⟨rfl, H.done⟩
theorem neqUse (a b : Int) (w : World) : (binOp .neq 40 (.agg #[.int .i64 a, .int .i64 b]) (.agg #[.int .i64 a, .int .i64 b])).run Try.prog w = .ok (.bool false) w := by go_simp
set_option maxHeartbeats 4000000 in
/-- SameUses, of lists of the same uses. -/
theorem sameUses_any {xs : List (Int × Int)} (hx : xs.length ≤ 999000) (c d : Nat) {sa sb : Option Addr} (w : World) (hl : Lies w w.heap.size sa 2 xs.length (fun j => encU xs[j]!)) (hm : Lies w w.heap.size sb 2 xs.length (fun j => encU xs[j]!)) :
    Calls Try.prog 14 #[.slice sa xs.length c, .slice sb xs.length d] w (Gives (.bool true) w) := by
  have HL := Lib.hid hl
  have HM := Lib.hid hm
  clear hl hm
  go_enter Try.func14, Try.ntmps14
  have H := HS.start NoD w
  go_wp2_with fail
  go_loopw [14] (fun cc wr => ∃ (j : Nat), cc = .int .i64 j ∧ j ≤ xs.length ∧ HS NoD w [] wr) (fun cc _ => xs.length - (intOf cc).toNat)
  case atStart => exact ⟨0, rfl, Nat.zero_le _, H⟩
  case round =>
    clear H
    obtain ⟨j, rfl, hj, H⟩ := hrel
    skip
    try clear C
    try simp only [World.size_alloc, List.nil_append, List.cons_append, List.append_assoc] at H
    have C := H.cells
    try simp only [cellsOf, cellsM, apartOf, apartM, and_true] at C
    by_cases hlt : j < xs.length
    · obtain ⟨b, o, rfl, hb, hc⟩ := (H.lies HL.out).at hlt
      obtain ⟨b', o', rfl, hb', hd⟩ := (H.lies HM.out).at hlt
      obtain ⟨x, hxj⟩ : ∃ x, x = xs[j]! := ⟨_, rfl⟩
      rw [← hxj] at hc hd
      obtain ⟨t0, t1⟩ := x
      have c0 : wr.cell? ⟨b, o + j * 2, none⟩ = some (.int .i64 t0) := hc 0 _ rfl
      have c1 : wr.cell? ⟨b, o + j * 2 + 1, none⟩ = some (.int .i64 t1) := hc 1 _ rfl
      clear hxj
      have hq := fun w => neqUse t0 t1 w
      have e0 : wr.cell? ⟨b', o' + j * 2, none⟩ = some (.int .i64 t0) := hd 0 _ rfl
      have e1 : wr.cell? ⟨b', o' + j * 2 + 1, none⟩ = some (.int .i64 t1) := hd 1 _ rfl
      have hlb : b < wr.heap.size := Nat.lt_of_lt_of_le hb H.size
      have hlb' : b' < wr.heap.size := Nat.lt_of_lt_of_le hb' H.size
      have hnb : (wr.heap.size = b') = False := eq_false (by omega)
      have hnb' : (b' = wr.heap.size) = False := eq_false (by omega)
      clear hc hd
      go_upto_region 6 with fail
      go_region
      go_wp2_with fail
      go_roundw
      case rel => exact ⟨j + 1, by go_num, by omega, H.alloc.drew.less (by repeat (first | exact .slnil | refine .cons_cons _ ?_ | refine .cons _ ?_))⟩
      case measure => simp [intOf]; omega
    · skip
      go_wp2_with fail
      go_ret
      exact ⟨rfl, H.done⟩
end Go.Proofs.Ythpoanlmaafanaa
