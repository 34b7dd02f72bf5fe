/- The sanity check of layer 31. -/
import Derived.Test.YtfmcicmbehjdcaaLrQ
import Derived.Test.YtfmcicmbehjdcaaLrO
import Derived.Test.YtfmcicmbehjdcaaLrW
import Derived.Test.YtfmcicmbehjdcaaLrE
namespace Go.Proofs.Ytfmcicmbehjdcaa
set_option linter.unusedSimpArgs false
set_option linter.unusedVariables false
open Go.RowKit
set_option maxRecDepth 100000
attribute [local irreducible] wpX wpF Calls

theorem by_blk {D : Nat → Prop} {W w : World} {L : List Item} (h : HS D W L w) (i : Nat) {b n : Nat} {t : TypeId} {cs : Array Value} {bs : List Int} (hi : L[i]? = some (.blk b cs t)) (hn : n = bs.length) (hcs : cs.toList = bs.flatMap bC1) : BytesAt w ⟨some ⟨b, 0, none⟩, n, n⟩ bs := by
  subst hn
  exact ⟨rfl, ⟨Nat.le_refl _, fun e => by cases e⟩, h.blkLies i bC1_len hi rfl hcs⟩
def xA : Lm := ⟨1, [1], false, false⟩
def xB : Lm := ⟨2, [2], false, false⟩
def xC : Lm := ⟨3, [3], false, false⟩
def lA : List Sm := [⟨true, 0, xA⟩, zSm]
def lB : List Sm := [⟨true, 1, xA⟩, ⟨true, 0, xB⟩]
def lC : List Sm := [⟨true, 0, xA⟩, ⟨true, 1, xB⟩]
def lD : List Sm := [⟨true, 1, xA⟩, ⟨true, 0, xC⟩]
theorem two_cases {k : Nat} (h : k < 2) : k = 0 ∨ k = 1 := by omega
theorem good0 : GoodC 1 2 1 [zSm, zSm] := GoodC.new (S := 1) (W := 2) (size := 1) (by decide)
theorem putA : PutR 1 2 1 [zSm, zSm] xA (lA, zLm, false, 0) := .inr (.inr ⟨by decide, fun k hk hh => by
  rcases two_cases hk with rfl | rfl <;> exact absurd hh.1 (by decide), 0, 0, by omega, by decide, ⟨by omega, .inl ⟨rfl, fun t ht => absurd ht (Nat.not_lt_zero _)⟩⟩, by decide⟩)
theorem goodA : GoodC 1 2 1 lA := good0.put putA
theorem putB : PutR 1 2 1 lA xB (lB, zLm, false, 0) := .inr (.inr ⟨by decide, fun k hk hh => by
  rcases two_cases hk with rfl | rfl
  · exact absurd hh.2 (by decide)
  · exact absurd hh.1 (by decide), 0, 1, by omega, by decide, ⟨by omega, .inl ⟨rfl, fun t ht => by
    obtain rfl : t = 0 := by omega
    rfl⟩⟩, by decide⟩)
theorem goodB : GoodC 1 2 1 lB := goodA.put putB
theorem getC : GetR 1 2 lB 1 (lC, xA, true) := .inr ⟨0, 0, by omega, by omega, ⟨rfl, rfl⟩, by decide⟩
theorem goodCC : GoodC 1 2 1 lC := goodB.get getC
theorem putD : PutR 1 2 1 lC xC (lD, xB, true, 0) := .inr (.inr ⟨by decide, fun k hk hh => by
  rcases two_cases hk with rfl | rfl <;> exact absurd hh.2 (by decide), 0, 1, by omega, by decide, ⟨by omega, .inr ⟨fun t ht => by
    rcases two_cases ht with rfl | rfl <;> rfl, by decide⟩⟩, by decide⟩)
theorem goodD : GoodC 1 2 1 lD := goodCC.put putD
set_option maxHeartbeats 16000000 in
theorem awake31_any (w : World) : Calls Try.prog 9 #[] w (Gives (.bool true) w) := by
  have HNW := Lib.hid (fun w => cnew_any 1 2 1 w)
  go_enter Try.func9, Try.ntmps9
  have H := HS.start NoD w
  go_wp2_with fail
  refine (HNW.out _).mono ?_
  rintro _ w50 hnew
  clear HNW
  rcases hnew with ⟨h1, -⟩ | ⟨-, s0, n0, hn0, rfl, K⟩
  · exact absurd h1 (by decide)
  obtain rfl : n0 = 2 := by omega
  have H1 := (H.join K (one_low rfl)).anyNil
  clear K H hn0
  try clear C
  try simp only [List.nil_append, List.cons_append] at H1
  have H := HS.weak (L := [_]) H1 (K' := fun w => SlotsOk w [zSw, zSw]) (fun w' _ => slotsOk_rep w' 2)
  clear H1
  skip
  try clear C
  try simp only [World.size_alloc, List.nil_append, List.cons_append, List.append_assoc] at H
  have C := H.cells
  try simp only [cellsOf, cellsM, apartOf, apartM, and_true] at C
  dsimp only
  go_upto_region 2 with fail
  generalize hwb : w50.alloc _ = w1
  replace H := HS.eqW hwb H.alloc
  try simp only [World.size_alloc, List.nil_append, List.cons_append, List.append_assoc] at H
  clear hwb
  generalize w50.heap.size = bC at H ⊢
  try clear C
  try clear w50
  have C := H.cells
  try simp only [cellsOf, cellsM, apartOf, apartM, and_true] at C
  have H2 := H.permu (L' := [.blk bC #[.int .i64 1, .int .i64 2, .int .i64 1, .slice s0 2 2] 24, rowS s0 2 2 [zSw, zSw], anyS _ [zSw, zSw]]) (List.perm_append_comm (l₁ := [_, _]) (l₂ := [_]))
  clear H C
  have H := H2
  clear H2
  obtain ⟨q0, hq0⟩ : ∃ q, q = [zSw, zSw] := ⟨_, rfl⟩
  rw [← hq0] at H
  have HQ := Lib.hid (show q0.map Sw.s = [zSm, zSm] by rw [hq0]; rfl)
  have HN := Lib.hid (show 2 = q0.length by rw [hq0]; rfl)
  clear hq0
  obtain ⟨F, H⟩ : ∃ F, HS NoD w [.blk bC #[.int .i64 1, .int .i64 2, .int .i64 1, .slice s0 2 2] 24, rowS s0 2 2 q0, anyS F q0] w1 := ⟨_, H⟩
  try clear C
  try simp only [World.size_alloc, List.nil_append, List.cons_append, List.append_assoc] at H
  have C := H.cells
  try simp only [cellsOf, cellsM, apartOf, apartM, and_true] at C
  have HPU := Lib.hid (fun (x y : Sv) wx hx hy => cput_any good0 x xA y (by decide) wx hx hy)
  go_wp2_with fail
  generalize hwb : w1.alloc _ = w2
  replace H := HS.eqW hwb H.alloc
  try simp only [World.size_alloc, List.nil_append, List.cons_append, List.append_assoc] at H
  clear hwb
  generalize w1.heap.size = bA at H ⊢
  try clear C
  try clear w1
  have C := H.cells
  try simp only [cellsOf, cellsM, apartOf, apartM, and_true] at C
  go_wp2_with fail
  refine (HPU.out ⟨s0, 2, 2⟩ ⟨some ⟨bA, 0, none⟩, 1, 1⟩ _ (by rw [← HQ.out]; exact H.slotsAt 1 2 rfl HN.out rfl) (by_blk H 3 rfl rfl rfl)).mono ?_
  rintro _ w61 ⟨o, s9, c9, q9, y9, F9, ho, hqo, rfl, K⟩
  obtain rfl := (good0).put_one ho putA
  have H1 := H.join K (two_low rfl rfl)
  clear K H C HPU ho
  have H := H1
  clear H1
  try simp only [List.nil_append, List.cons_append] at H
  have HQ2 := Lib.hid hqo
  have HN2 := Lib.hid (show 2 = q9.length by have := congrArg List.length hqo; rw [List.length_map] at this; exact this.symm)
  have hqn : q9.length = 2 := HN2.out.symm
  rw [hqn] at H ⊢
  clear hqo hqn HQ HN
  skip
  try clear C
  try simp only [World.size_alloc, List.nil_append, List.cons_append, List.append_assoc] at H
  have C := H.cells
  try simp only [cellsOf, cellsM, apartOf, apartM, and_true] at C
  dsimp only [caV, lnV]
  go_upto_region 3 with fail
  generalize hwb : (((w61.setCell _ _).setCell _ _).setCell _ _).setCell _ _ = w3
  replace H := HS.eqW hwb (H.putAll (i := 0) rfl (vs := [.int .i64 1, .int .i64 2, .int .i64 1, .slice s9 2 c9]) rfl rfl)
  simp only [List.nil_append, List.cons_append, List.append_assoc, List.set_cons_succ, List.set_cons_zero] at H
  clear hwb
  try clear C
  try clear w61
  have C := H.cells
  try simp only [cellsOf, cellsM, apartOf, apartM, and_true] at C
  have H1 := HS.less (L' := [.blk bC #[.int .i64 1, .int .i64 2, .int .i64 1, .slice s9 2 c9] 24, rowS s9 2 c9 q9, .any F9 _]) H (by repeat (first | exact .slnil | refine .cons_cons _ ?_ | refine .cons _ ?_))
  have H2 := HS.weak (L := [_, _]) H1 (K' := fun w => SlotsOk w q9) (fun w' h => h.1)
  clear H H1
  try clear C
  have H := H2
  clear H2
  have HQ := HQ2
  have HN := HN2
  clear HQ2 HN2
  generalize s9 = s0, c9 = c0, q9 = q0, F9 = F at *
  try clear C
  try simp only [World.size_alloc, List.nil_append, List.cons_append, List.append_assoc] at H
  have C := H.cells
  try simp only [cellsOf, cellsM, apartOf, apartM, and_true] at C
  have HPU := Lib.hid (fun (x y : Sv) wx hx hy => cput_any goodA x xB y (by decide) wx hx hy)
  go_wp2_with fail
  generalize hwb : w3.alloc _ = w4
  replace H := HS.eqW hwb H.alloc
  try simp only [World.size_alloc, List.nil_append, List.cons_append, List.append_assoc] at H
  clear hwb
  generalize w3.heap.size = bB at H ⊢
  try clear C
  try clear w3
  have C := H.cells
  try simp only [cellsOf, cellsM, apartOf, apartM, and_true] at C
  go_wp2_with fail
  refine (HPU.out ⟨s0, 2, c0⟩ ⟨some ⟨bB, 0, none⟩, 1, 1⟩ _ (by rw [← HQ.out]; exact H.slotsAt 1 2 rfl HN.out rfl) (by_blk H 3 rfl rfl rfl)).mono ?_
  rintro _ w62 ⟨o, s9, c9, q9, y9, F9, ho, hqo, rfl, K⟩
  obtain rfl := (goodA).put_one ho putB
  have H1 := H.join K (two_low rfl rfl)
  clear K H C HPU ho
  have H := H1
  clear H1
  try simp only [List.nil_append, List.cons_append] at H
  have HQ2 := Lib.hid hqo
  have HN2 := Lib.hid (show 2 = q9.length by have := congrArg List.length hqo; rw [List.length_map] at this; exact this.symm)
  have hqn : q9.length = 2 := HN2.out.symm
  rw [hqn] at H ⊢
  clear hqo hqn HQ HN
  skip
  try clear C
  try simp only [World.size_alloc, List.nil_append, List.cons_append, List.append_assoc] at H
  have C := H.cells
  try simp only [cellsOf, cellsM, apartOf, apartM, and_true] at C
  dsimp only [caV, lnV]
  go_upto_region 4 with fail
  generalize hwb : (((w62.setCell _ _).setCell _ _).setCell _ _).setCell _ _ = w5
  replace H := HS.eqW hwb (H.putAll (i := 0) rfl (vs := [.int .i64 1, .int .i64 2, .int .i64 1, .slice s9 2 c9]) rfl rfl)
  simp only [List.nil_append, List.cons_append, List.append_assoc, List.set_cons_succ, List.set_cons_zero] at H
  clear hwb
  try clear C
  try clear w62
  have C := H.cells
  try simp only [cellsOf, cellsM, apartOf, apartM, and_true] at C
  have H1 := HS.less (L' := [.blk bC #[.int .i64 1, .int .i64 2, .int .i64 1, .slice s9 2 c9] 24, rowS s9 2 c9 q9, .any F9 _]) H (by repeat (first | exact .slnil | refine .cons_cons _ ?_ | refine .cons _ ?_))
  have H2 := HS.weak (L := [_, _]) H1 (K' := fun w => SlotsOk w q9) (fun w' h => h.1)
  clear H H1
  try clear C
  have H := H2
  clear H2
  have HQ := HQ2
  have HN := HN2
  clear HQ2 HN2
  generalize s9 = s0, c9 = c0, q9 = q0, F9 = F at *
  try clear C
  try simp only [World.size_alloc, List.nil_append, List.cons_append, List.append_assoc] at H
  have C := H.cells
  try simp only [cellsOf, cellsM, apartOf, apartM, and_true] at C
  have HGE := Lib.hid (fun (x : Sv) wx hx => cget_any goodB x 1 wx hx)
  go_wp2_with fail
  refine (HGE.out ⟨s0, 2, c0⟩ _ (by rw [← HQ.out]; exact H.slotsAt 1 2 rfl HN.out rfl)).mono ?_
  rintro _ w70 ⟨o, s9, c9, q9, y9, F9, ho, hqo, rfl, K⟩
  obtain rfl := goodB.get_one ho getC
  have H1 := H.join K (two_low rfl rfl)
  clear K H C HGE ho
  have H := H1
  clear H1
  try simp only [List.nil_append, List.cons_append] at H
  have HQ2 := Lib.hid hqo
  have HN2 := Lib.hid (show 2 = q9.length by have := congrArg List.length hqo; rw [List.length_map] at this; exact this.symm)
  have hqn : q9.length = 2 := HN2.out.symm
  rw [hqn] at H ⊢
  clear hqo hqn HQ HN
  skip
  try clear C
  try simp only [World.size_alloc, List.nil_append, List.cons_append, List.append_assoc] at H
  have C := H.cells
  try simp only [cellsOf, cellsM, apartOf, apartM, and_true] at C
  dsimp only [caV, lnV, xA]
  obtain ⟨y9x, hyx⟩ : ∃ y, y = y9 := ⟨_, rfl⟩
  subst hyx
  go_upto_region 5 with fail
  generalize hwb : (((w70.setCell _ _).setCell _ _).setCell _ _).setCell _ _ = w6
  have hzs : w6.heap.size = w70.heap.size := by rw [← hwb]; simp
  replace H := HS.eqW hwb (H.putAll (i := 0) rfl (vs := [.int .i64 1, .int .i64 2, .int .i64 1, .slice s9 2 c9]) rfl rfl)
  simp only [List.nil_append, List.cons_append, List.append_assoc, List.set_cons_succ, List.set_cons_zero] at H
  clear hwb
  try clear C
  have H1 := HS.less (L' := [.blk bC #[.int .i64 1, .int .i64 2, .int .i64 1, .slice s9 2 c9] 24, rowS s9 2 c9 q9, .any F9 _]) H (by repeat (first | exact .slnil | refine .cons_cons _ ?_ | refine .cons _ ?_))
  have H2 := HS.weak (L := [_, _]) H1 (K' := fun w => SlotsOk w q9) (fun w' h => h.1)
  clear H H1
  try clear C
  have H := H2
  clear H2
  have HQ := HQ2
  have HN := HN2
  clear HQ2 HN2
  generalize s9 = s0, c9 = c0, q9 = q0, F9 = F at *
  generalize hwb : w6.alloc _ = w7
  replace H := HS.eqW hwb H.alloc
  try simp only [World.size_alloc, List.nil_append, List.cons_append, List.append_assoc] at H
  clear hwb
  rw [hzs] at H
  clear hzs
  generalize w70.heap.size = bX at H ⊢
  try clear C
  try clear w6
  try clear w70
  have C := H.cells
  try simp only [cellsOf, cellsM, apartOf, apartM, and_true] at C
  have HPU := Lib.hid (fun (x y : Sv) wx hx hy => cput_any goodCC x xC y (by decide) wx hx hy)
  go_wp2_with fail
  generalize hwb : w7.alloc _ = w8
  replace H := HS.eqW hwb H.alloc
  try simp only [World.size_alloc, List.nil_append, List.cons_append, List.append_assoc] at H
  clear hwb
  generalize w7.heap.size = bY at H ⊢
  try clear C
  try clear w7
  have C := H.cells
  try simp only [cellsOf, cellsM, apartOf, apartM, and_true] at C
  go_wp2_with fail
  refine (HPU.out ⟨s0, 2, c0⟩ ⟨some ⟨bY, 0, none⟩, 1, 1⟩ _ (by rw [← HQ.out]; exact H.slotsAt 1 2 rfl HN.out rfl) (by_blk H 4 rfl rfl rfl)).mono ?_
  rintro _ w63 ⟨o, s9, c9, q9, y9, F9, ho, hqo, rfl, K⟩
  obtain rfl := goodCC.put_one ho putD
  have H1 := H.join K (two_low rfl rfl)
  clear K H C HPU ho
  have H := H1
  clear H1
  try simp only [List.nil_append, List.cons_append] at H
  have HQ2 := Lib.hid hqo
  have HN2 := Lib.hid (show 2 = q9.length by have := congrArg List.length hqo; rw [List.length_map] at this; exact this.symm)
  have hqn : q9.length = 2 := HN2.out.symm
  rw [hqn] at H ⊢
  clear hqo hqn HQ HN
  skip
  try clear C
  try simp only [World.size_alloc, List.nil_append, List.cons_append, List.append_assoc] at H
  have C := H.cells
  try simp only [cellsOf, cellsM, apartOf, apartM, and_true] at C
  dsimp only [caV, lnV, xB]
  go_upto_region 6 with fail
  generalize hwb : (((w63.setCell _ _).setCell _ _).setCell _ _).setCell _ _ = w9
  have hzs : w9.heap.size = w63.heap.size := by rw [← hwb]; simp
  replace H := HS.eqW hwb (H.putAll (i := 0) rfl (vs := [.int .i64 1, .int .i64 2, .int .i64 1, .slice s9 2 c9]) rfl rfl)
  simp only [List.nil_append, List.cons_append, List.append_assoc, List.set_cons_succ, List.set_cons_zero] at H
  clear hwb
  try clear C
  have H1 := HS.less (L' := [.blk bC #[.int .i64 1, .int .i64 2, .int .i64 1, .slice s9 2 c9] 24, .blk bX #[.int .i64 1, .slice y9x.sa y9x.n y9x.c, .bool false, .bool false] 35, rowS s9 2 c9 q9, .any F9 _]) H (by repeat (first | exact .slnil | refine .cons_cons _ ?_ | refine .cons _ ?_))
  have H2 := HS.weak (L := [_, _, _]) H1 (K' := fun w => SlotsOk w q9) (fun w' h => h.1)
  clear H H1
  try clear C
  have H := H2
  clear H2
  have HQ := HQ2
  have HN := HN2
  clear HQ2 HN2
  generalize s9 = s0, c9 = c0, q9 = q0, F9 = F at *
  generalize hwb : w9.alloc _ = w10
  replace H := HS.eqW hwb H.alloc
  try simp only [World.size_alloc, List.nil_append, List.cons_append, List.append_assoc] at H
  clear hwb
  rw [hzs] at H
  clear hzs
  generalize w63.heap.size = bV at H ⊢
  try clear C
  try clear w9
  try clear w63
  have C := H.cells
  try simp only [cellsOf, cellsM, apartOf, apartM, and_true] at C
  have HV := Lib.hid (fun wx hl => cvalid_any 1 2 1 ⟨s0, 2, c0⟩ q0 HN.out (row_capOk (H.at 2 rfl)) (by have := HN.out; omega) (fun j hj => (H.says 3 rfl j hj).len) wx hl)
  rw [HQ.out, show validB 1 2 1 lD = true from goodD.valid] at HV
  go_wp2_with fail
  refine (HV.out _ (by have := H.rowLies 2 swC_len rfl HN.out; rw [← HN.out]; exact this)).mono ?_
  rintro _ w90 ⟨rfl, hb⟩
  replace H := H.below hb
  clear hb HV C
  skip
  try clear C
  try simp only [World.size_alloc, List.nil_append, List.cons_append, List.append_assoc] at H
  have C := H.cells
  try simp only [cellsOf, cellsM, apartOf, apartM, and_true] at C
  dsimp only
  go_wp2_with fail
  go_ret
  exact ⟨rfl, H.done⟩
end Go.Proofs.Ytfmcicmbehjdcaa
