/- The sanity check of layer 34. -/
import Derived.Test.YtheccfiidollpaaRlK
namespace Go.Proofs.Ytheccfiidollpaa
set_option linter.unusedSimpArgs false
set_option linter.unusedVariables false
open Go.RowKit
set_option maxRecDepth 100000
attribute [local irreducible] wpX wpF Calls

theorem bytes_blk {D : Nat → Prop} {W w : World} {L : List Item} (h : HS D W L w) (i : Nat) {b n : Nat} {t : TypeId} {cs : Array Value} {bs : List Int} (hi : L[i]? = some (.blk b cs t)) (hn : n = bs.length) (hcs : cs.toList = bs.flatMap bC1) : BytesAt w ⟨some ⟨b, 0, none⟩, n, n⟩ bs := by
  subst hn
  exact ⟨rfl, ⟨Nat.le_refl _, fun e => by cases e⟩, h.blkLies i bC1_len hi rfl hcs⟩
def bAw : Bm := ⟨2, [[1], [2], [3], [4]]⟩
theorem store_nil (w : World) : StoreAt w ⟨none, 0, 0⟩ [] := ⟨[], rfl, rfl, ⟨Nat.le_refl _, fun _ => rfl⟩, Lies.nil0, fun j hj => absurd hj (Nat.not_lt_zero _)⟩
theorem unused_aw1 {u : Int} (h : UnusedIs [bAw] u) : u = 1 := by
  obtain ⟨h1, h2⟩ := h
  refine Classical.byContradiction fun hne => ?_
  obtain ⟨i, hi, e⟩ := h2 1 (by omega) (by omega) (by omega)
  have : i = 0 := by simp at hi; omega
  subst this
  exact absurd e (by decide)
theorem unused_aw2 {u : Int} (h : UnusedIs [⟨1, []⟩, ⟨3, []⟩] u) : u = 2 := by
  obtain ⟨h1, h2⟩ := h
  have h3 : ¬ (2 < u ∨ u = 0) := fun hh => by
    obtain ⟨i, hi, e⟩ := h2 2 (by omega) (by omega) hh
    have : i = 0 ∨ i = 1 := by simp at hi; omega
    rcases this with rfl | rfl <;> exact absurd e (by decide)
  rcases h1 with h1 | ⟨h1, h4, h5⟩
  · exact absurd (.inr h1) h3
  · have : u ≠ 1 := fun e => h5 0 (by simp) (by rw [e]; rfl)
    omega
theorem good_aw : GoodB 1 bAw := ⟨by decide, by decide, rfl, fun j hj => by
  have : j = 0 ∨ j = 1 ∨ j = 2 ∨ j = 3 := by omega
  rcases this with rfl | rfl | rfl | rfl <;> rfl⟩
theorem small_aw : SmallS [bAw] := ⟨by simp, fun j hj => by
  have : j = 0 := by simpa using hj
  subst this
  exact good_aw.small (by omega)⟩
theorem store_lit {D : Nat → Prop} {W w : World} {L : List Item} {i b : Nat} {t : TypeId} (h : HS D W L w) (hi : L[i]? = some (.blk b #[.int .i64 1, .slice none 0 0, .int .i64 3, .slice none 0 0] t)) : StoreAt w ⟨some ⟨b, 0, none⟩, 2, 2⟩ [⟨1, []⟩, ⟨3, []⟩] := by
  refine ⟨[⟨1, ⟨none, 0, 0⟩⟩, ⟨3, ⟨none, 0, 0⟩⟩], rfl, rfl, ⟨Nat.le_refl _, fun e => by cases e⟩, h.blkLies i bvC_len hi rfl rfl, fun j hj => ?_⟩
  have hw : WordsAt w ⟨none, 0, 0⟩ [] := ⟨[], rfl, rfl, ⟨Nat.le_refl _, fun _ => rfl⟩, Lies.nil0, fun j hj => absurd hj (Nat.not_lt_zero _)⟩
  have : j = 0 ∨ j = 1 := by simp at hj; omega
  rcases this with rfl | rfl
  · exact ⟨rfl, hw⟩
  · exact ⟨rfl, hw⟩
theorem unused_lit (b : Nat) (w : World) (h : StoreAt w ⟨some ⟨b, 0, none⟩, 2, 2⟩ [⟨1, []⟩, ⟨3, []⟩]) : Calls Try.prog 11 #[.slice (some ⟨b, 0, none⟩) 2 2] w (fun e w' => ∃ u, e = .returned (.int .i64 u) ∧ UnusedIs [⟨1, []⟩, ⟨3, []⟩] u ∧ Below w.heap.size w w') := runused_any ⟨some ⟨b, 0, none⟩, 2, 2⟩ _ (by simp) w h
set_option maxHeartbeats 8000000 in
theorem awake34_any (w : World) : Calls Try.prog 6 #[] w (Gives (.bool true) w) := by
  go_enter Try.func6, Try.ntmps6
  have H := HS.start NoD w
  go_upto_region 2 with fail
  generalize hwb : (((((w.alloc _).alloc _).alloc _).alloc _).alloc _).alloc _ = w1
  replace H := HS.eqW hwb H.alloc.alloc.alloc.alloc.alloc.alloc
  try simp only [World.size_alloc, List.nil_append, List.cons_append, List.append_assoc] at H
  clear hwb
  generalize w.heap.size + 5 = bB at H ⊢
  generalize w.heap.size + 4 = bW at H ⊢
  generalize w.heap.size + 3 = b9 at H ⊢
  generalize w.heap.size + 2 = b8 at H ⊢
  generalize w.heap.size + 1 = b7 at H ⊢
  generalize w.heap.size = b6 at H ⊢
  try clear C
  have C := H.cells
  try simp only [cellsOf, cellsM, apartOf, apartM, and_true] at C
  have HBA := Lib.hid (show BlobAt w1 ⟨2, ⟨some ⟨bW, 0, none⟩, 4, 4⟩⟩ bAw from ⟨rfl, [⟨some ⟨b6, 0, none⟩, 1, 1⟩, ⟨some ⟨b7, 0, none⟩, 1, 1⟩, ⟨some ⟨b8, 0, none⟩, 1, 1⟩, ⟨some ⟨b9, 0, none⟩, 1, 1⟩], rfl, rfl, ⟨Nat.le_refl _, fun e => by cases e⟩, H.blkLies 4 svC_len rfl rfl rfl, fun j hj => by
    have : j = 0 ∨ j = 1 ∨ j = 2 ∨ j = 3 := by simp [bAw] at hj; omega
    rcases this with rfl | rfl | rfl | rfl
    · exact bytes_blk H 0 rfl rfl rfl
    · exact bytes_blk H 1 rfl rfl rfl
    · exact bytes_blk H 2 rfl rfl rfl
    · exact bytes_blk H 3 rfl rfl rfl⟩)
  have HGB := Lib.hid good_aw
  have HPU := Lib.hid (fun w h hb => rput_any 1 (by omega) (by omega) ⟨none, 0, 0⟩ [] (GoodS.nil 1) ⟨2, ⟨some ⟨bW, 0, none⟩, 4, 4⟩⟩ bAw HGB.out w h hb)
  have HPU2 := Lib.hid (fun w h hb => (show Calls Try.prog 12 #[.int .i64 1, .slice none 0 0, .agg #[.int .i64 2, .slice (some ⟨bW, 0, none⟩) 4 4]] w (GivesPut [] bAw w) from HPU.out w h hb))
  clear HPU
  go_wp2_with fail
  refine (HPU2.out _ (store_nil _) HBA.out).mono ?_
  rintro _ w2 ⟨i, r, s2, c2, qs, F, hpo, hr, hql, rfl, K⟩
  have hi0 : i = 0 := by have := hpo.le; simpa using this
  subst hi0
  have hr2 : r = [bAw] := hr
  subst hr2
  clear hpo hr HBA HPU2
  have H9 := (HS.start NoD w).below (H.join K (fun A hA => by simp only [List.mem_cons, List.mem_nil_iff, or_false] at hA; rcases hA with rfl | rfl <;> rfl)).done
  replace H := H.join K (fun A hA => by simp only [List.mem_cons, List.mem_nil_iff, or_false] at hA; rcases hA with rfl | rfl <;> rfl)
  clear K H9
  have H8 := HS.less (L' := [rowB s2 1 c2 qs, anyB F qs [bAw]]) H (by repeat (first | exact .slnil | refine .cons_cons _ ?_ | refine .cons _ ?_))
  clear H
  have H := H8
  clear H8
  skip
  have HQL := Lib.hid hql
  have HSS := Lib.hid small_aw
  have HGT := Lib.hid (fun w h => (show Calls Try.prog 13 #[.slice s2 1 c2, .int .i64 2] w _ from rget_any ⟨s2, 1, c2⟩ [bAw] HSS.out 2 w h))
  have HUN := Lib.hid (fun w h => (show Calls Try.prog 11 #[.slice s2 1 c2] w _ from runused_any ⟨s2, 1, c2⟩ [bAw] (by simp) w h))
  clear hql
  clear C
  dsimp only [List.length_singleton]
  go_wp2_with fail
  refine (HGT.out _ (storeAt_of (H.at 0 rfl) rfl HQL.out (H.says 1 rfl))).mono ?_
  rintro _ w3 hg
  rcases hg with ⟨i, q, G, hi, hid, rfl, K⟩ | ⟨hno, -, -⟩
  case inr => exact absurd rfl (hno 0 (by simp))
  have hi0 : i = 0 := by simpa using hi
  subst hi0
  clear hi hid
  replace H := H.join K (one_low rfl)
  clear K HGT
  simp only [List.nil_append, List.cons_append] at H
  obtain ⟨qi, qa, qn, qc⟩ := q
  obtain ⟨-, vs, hvl, hqn, hqc, hl, hby⟩ := (show BlobAt w3 ⟨qi, ⟨qa, qn, qc⟩⟩ bAw from H.says 2 rfl)
  have hv4 : vs.length = 4 := hvl
  dsimp only at hqn hl
  rw [hv4] at hqn hl
  subst hqn
  obtain ⟨bw, ow, rfl, hbw, hc3⟩ := hl.at (show 3 < 4 by omega)
  have hb3 := hby 3 (by decide)
  generalize vs[3]! = v3 at hc3 hb3
  obtain ⟨va, vn, vc⟩ := v3
  have e1 : vn = 1 := hb3.len
  subst e1
  obtain ⟨bb, ob, e2, hbb, hc4⟩ := hb3.lies.at (show 0 < 1 by omega)
  dsimp only at e2
  subst e2
  have k3 : w3.cell? ⟨bw, ow + 3, none⟩ = some (.slice (some ⟨bb, ob, none⟩) 1 vc) := hc3 0 _ rfl
  have k4 : w3.cell? ⟨bb, ob, none⟩ = some (.int .u8 4) := hc4 0 _ rfl
  have m1 : (bw = w3.heap.size) = False := eq_false (by omega)
  have m2 : (w3.heap.size = bw) = False := eq_false (by omega)
  have m3 : (bb = w3.heap.size) = False := eq_false (by omega)
  have m4 : (w3.heap.size = bb) = False := eq_false (by omega)
  clear hvl hv4 hl hby hc3 hb3 hc4
  skip
  try clear C
  try simp only [World.size_alloc, List.nil_append, List.cons_append, List.append_assoc] at H
  have C := H.cells
  try simp only [cellsOf, cellsM, apartOf, apartM, and_true] at C
  dsimp only [vBv]
  go_wp2_with fail
  have HQ2 := Lib.hid (fun b w h => unused_lit b w h)
  refine (HUN.out _ (storeAt_of (H.alloc.at 0 rfl) rfl HQL.out (H.alloc.says 1 rfl))).mono ?_
  rintro _ w2 ⟨u, rfl, hu, hb⟩
  replace H := H.alloc.below hb
  clear hb
  try clear C
  try simp only [World.size_alloc, List.nil_append, List.cons_append, List.append_assoc] at H
  generalize w3.heap.size = b4 at H ⊢
  try clear w3
  have C := H.cells
  try simp only [cellsOf, cellsM, apartOf, apartM, and_true] at C
  dsimp only
  obtain rfl := unused_aw1 hu
  clear hu k3 k4 m1 m2 m3 m4
  go_wp2_with fail
  refine (HQ2.out _ _ (store_lit (i := 4) H.alloc rfl)).mono ?_
  rintro _ w8 ⟨u, rfl, hu, hb8⟩
  obtain rfl := unused_aw2 hu
  replace H := H.alloc.below hb8
  clear hu hb8
  go_wp2_with fail
  go_ret
  exact ⟨rfl, H.done⟩
end Go.Proofs.Ytheccfiidollpaa
