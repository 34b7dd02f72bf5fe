/- memfaultref33.Same on equal lists; the example of chapter 33. -/
import Derived.Test.YtedbpmckgiifpaaGreatC4
namespace Go.Proofs.YtedbpmckgiifpaaGreat
set_option linter.unusedSimpArgs false
set_option linter.unusedVariables false
open Go.RowKit
set_option maxRecDepth 100000
attribute [local go_sem] lt_more ne_more ne_more'
attribute [local irreducible] wpX wpF Calls

theorem neqDd (a b c d e : Int) (w : World) : (binOp .neq 24 (.agg #[.int .i64 a, .int .i64 b, .int .i64 c, .int .i64 d, .int .i64 e]) (.agg #[.int .i64 a, .int .i64 b, .int .i64 c, .int .i64 d, .int .i64 e])).run Tryz.prog w = .ok (.bool false) w := by go_simp
/-- Same, of equal lists. -/
theorem same33_of {xs : List Dd} (hx : xs.length ≤ 1000000) (c d : Nat) {sa sb : Option Addr} (w : World) (hl : Lies w w.heap.size sa 5 xs.length (fun j => ddC xs[j]!)) (hm : Lies w w.heap.size sb 5 xs.length (fun j => ddC xs[j]!)) :
    Calls Tryz.prog 16 #[.slice sa xs.length c, .slice sb xs.length d] w (Gives (.bool true) w) := by
  have HL := Lib.hid hl
  have HM := Lib.hid hm
  clear hl hm
  go_enter Tryz.func16, Tryz.ntmps16
  have H := HS.start NoD w
  go_wp2_with fail
  go_loopw [14] (fun cc wr => ∃ (j : Nat), cc = .int .i64 j ∧ j ≤ xs.length ∧ HS NoD w [] wr) (fun cc _ => xs.length - (intOf cc).toNat)
  case atStart => exact ⟨0, rfl, Nat.zero_le _, H⟩
  case round =>
    clear H
    obtain ⟨j, rfl, hj, H⟩ := hrel
    skip
    by_cases hlt : j < xs.length
    · obtain ⟨b, o, rfl, hb, hc⟩ := (H.lies HL.out).at hlt
      obtain ⟨b', o', rfl, hb', hd⟩ := (H.lies HM.out).at hlt
      obtain ⟨x, hxj⟩ : ∃ x, x = xs[j]! := ⟨_, rfl⟩
      rw [← hxj] at hc hd
      obtain ⟨t0, t1, t2, t3, t4⟩ := x
      have c0 : wr.cell? ⟨b, o + j * 5, none⟩ = some (.int .i64 t0) := hc 0 _ rfl
      have c1 : wr.cell? ⟨b, o + j * 5 + 1, none⟩ = some (.int .i64 t1) := hc 1 _ rfl
      have c2 : wr.cell? ⟨b, o + j * 5 + 2, none⟩ = some (.int .i64 t2) := hc 2 _ rfl
      have c3 : wr.cell? ⟨b, o + j * 5 + 3, none⟩ = some (.int .i64 t3) := hc 3 _ rfl
      have c4 : wr.cell? ⟨b, o + j * 5 + 4, none⟩ = some (.int .i64 t4) := hc 4 _ rfl
      clear hxj
      have hq := fun w => neqDd t0 t1 t2 t3 t4 w
      have e0 : wr.cell? ⟨b', o' + j * 5, none⟩ = some (.int .i64 t0) := hd 0 _ rfl
      have e1 : wr.cell? ⟨b', o' + j * 5 + 1, none⟩ = some (.int .i64 t1) := hd 1 _ rfl
      have e2 : wr.cell? ⟨b', o' + j * 5 + 2, none⟩ = some (.int .i64 t2) := hd 2 _ rfl
      have e3 : wr.cell? ⟨b', o' + j * 5 + 3, none⟩ = some (.int .i64 t3) := hd 3 _ rfl
      have e4 : wr.cell? ⟨b', o' + j * 5 + 4, none⟩ = some (.int .i64 t4) := hd 4 _ rfl
      have hlb : b < wr.heap.size := Nat.lt_of_lt_of_le hb H.size
      have hlb' : b' < wr.heap.size := Nat.lt_of_lt_of_le hb' H.size
      have hnb : (wr.heap.size = b') = False := eq_false (by omega)
      have hnb' : (b' = wr.heap.size) = False := eq_false (by omega)
      clear hc hd
      go_upto_region 6 with fail
      go_region
      go_wp2_with fail
      go_roundw
      case rel => exact ⟨j + 1, by go_num, by omega, H.alloc.drew.less (by repeat (first | exact .slnil | refine .cons_cons _ ?_ | refine .cons _ ?_))⟩
      case measure => simp [intOf]; omega
    · go_wp2_with fail
      go_ret
      exact ⟨rfl, H.done⟩
def awF : List Fr := [⟨2, 0⟩, ⟨0, 0⟩]
def awC : List Pr := [⟨1, true, false, [⟨0, 0, true⟩], []⟩, ⟨2, false, false, [⟨4, 0, true⟩], []⟩]
def awD : List Dd := [⟨4, 0, 0, 1, 0⟩, ⟨5, 0, 0, 2, 4⟩, ⟨1, 0, 0, 0, 0⟩]
theorem awDec : decP true awF awC 0 1 = (0, awD) := by decide
theorem awFV : FrV awF := ⟨by decide, by decide, fun x hx => by simp only [awF, List.mem_cons, List.mem_nil_iff, or_false] at hx; rcases hx with rfl | rfl <;> rfl⟩
theorem awCG : GoodP 2 awC := by
  refine ⟨by decide, fun p hp => ?_, by unfold awC; simp, by unfold awC; simp [Sh]⟩
  simp only [awC, List.mem_cons, List.mem_nil_iff, or_false] at hp
  rcases hp with rfl | rfl
  all_goals exact ⟨by decide, by decide, List.pairwise_singleton _ _, (fun x hx => by cases List.mem_singleton.1 hx; decide), List.pairwise_singleton _ _, (fun e => by cases e), by decide⟩
theorem HS.litP2 {D : Nat → Prop} {W w : World} {L : List Item} (h : HS D W L w) (i j k : Nat) {b0 b1 b : Nat} {t t0 t1 : TypeId} (h0 : L[i]? = some (.blk b0 #[.int .i64 0, .int .i64 0, .bool true] t0)) (h1 : L[j]? = some (.blk b1 #[.int .i64 4, .int .i64 0, .bool true] t1))
    (hk : L[k]? = some (.blk b #[.int .i64 1, .bool true, .bool false, .slice (some ⟨b0, 0, none⟩) 1 1, .slice none 0 0, .int .i64 2, .bool false, .bool false, .slice (some ⟨b1, 0, none⟩) 1 1, .slice none 0 0] t)) : Ps w w.heap.size (.slice (some ⟨b, 0, none⟩) 2 2) awC :=
  ⟨[⟨⟨1, true, false, [⟨0, 0, true⟩], []⟩, .slice (some ⟨b0, 0, none⟩) 1 1, .slice none 0 0⟩, ⟨⟨2, false, false, [⟨4, 0, true⟩], []⟩, .slice (some ⟨b1, 0, none⟩) 1 1, .slice none 0 0⟩], rfl,
    ⟨_, 2, rfl, ⟨Nat.le_refl _, fun e => by cases e⟩, h.blkLies (n := 2) (xs := [(⟨⟨1, true, false, [⟨0, 0, true⟩], []⟩, .slice (some ⟨b0, 0, none⟩) 1 1, .slice none 0 0⟩ : Pv), ⟨⟨2, false, false, [⟨4, 0, true⟩], []⟩, .slice (some ⟨b1, 0, none⟩) 1 1, .slice none 0 0⟩]) k pvC_len hk rfl rfl⟩,
    fun q hq => by
      simp only [List.mem_cons, List.mem_nil_iff, or_false] at hq
      rcases hq with rfl | rfl
      · exact ⟨⟨_, 1, rfl, ⟨Nat.le_refl _, fun e => by cases e⟩, h.blkLies (n := 1) (xs := [(⟨0, 0, true⟩ : Pg)]) i pgC_len h0 rfl rfl⟩, Sl.nil _ _ _ _⟩
      · exact ⟨⟨_, 1, rfl, ⟨Nat.le_refl _, fun e => by cases e⟩, h.blkLies (n := 1) (xs := [(⟨4, 0, true⟩ : Pg)]) j pgC_len h1 rfl rfl⟩, Sl.nil _ _ _ _⟩⟩
set_option maxHeartbeats 4000000 in
theorem awake33_any (w : World) : Calls Tryz.prog 5 #[] w (Gives (.bool true) w) := by
  have H1 := Lib.hid (fun b c v w hl hp => cdecide_any awFV awCG 0 1 (sa := some ⟨b, 0, none⟩) c (v := v) w hl hp)
  rw [awDec] at H1
  go_enter Tryz.func5, Tryz.ntmps5
  have H := HS.start NoD w
  go_wp2_with fail
  have H0 := H.alloc (cs := #[.int .i64 2, .int .i64 0, .int .i64 0, .int .i64 0]) (t := 47)
  have H2 := (H0.alloc (cs := #[.int .i64 0, .int .i64 0, .bool true]) (t := 49)).alloc (cs := #[.int .i64 4, .int .i64 0, .bool true]) (t := 49)
  have H3 := H2.alloc (cs := #[.int .i64 1, .bool true, .bool false, .slice (some ⟨w.heap.size + 1, 0, none⟩) 1 1, .slice none 0 0, .int .i64 2, .bool false, .bool false, .slice (some ⟨w.heap.size + 1 + 1, 0, none⟩) 1 1, .slice none 0 0]) (t := 52)
  simp only [World.size_alloc, List.nil_append, List.cons_append] at H3
  clear H H0 H2
  refine (H1.out w.heap.size 2 _ _ (H3.blkLies (xs := awF) 0 frC_len rfl rfl rfl) (H3.litP2 1 2 3 rfl rfl rfl)).mono ?_
  rintro _ w1 ⟨s1, d1, rfl, hr, hb⟩
  have H := H3.getsRow hb hr
  clear hr hb H3
  simp only [List.nil_append, List.cons_append] at H
  skip
  try clear C
  try simp only [World.size_alloc, List.nil_append, List.cons_append, List.append_assoc] at H
  have C := H.cells
  try simp only [cellsOf, cellsM, apartOf, apartM, and_true] at C
  dsimp only
  go_wp2_with fail
  refine (same33_of (xs := awD) (by decide) d1 3 _ (H.alloc.rowLies 4 ddC_len rfl rfl) (H.alloc.blkLies 5 ddC_len rfl rfl rfl)).mono ?_
  rintro _ w2 ⟨rfl, hb⟩
  replace H := H.alloc.below hb
  dsimp only
  go_wp2_with fail
  go_ret
  exact ⟨rfl, H.done⟩
end Go.Proofs.YtedbpmckgiifpaaGreat
