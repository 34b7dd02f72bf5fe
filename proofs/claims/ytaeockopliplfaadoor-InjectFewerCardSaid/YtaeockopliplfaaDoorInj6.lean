/- The sanity check of the statements about scripts of faults. -/
import Derived.Test.YtaeockopliplfaaDoorInj5
namespace Go.Proofs.YtaeockopliplfaaDoor
set_option linter.unusedSimpArgs false
set_option linter.unusedVariables false
open Go.RowKit
set_option maxRecDepth 100000
attribute [local go_sem] lt_more ne_more ne_more'
attribute [local irreducible] wpX wpF Calls

def stA : St := ⟨0, 2, 0, 0, 0, 0, 0, 0, 0, 1, 0, false⟩
def stB : St := ⟨3, 3, 0, 0, 0, 0, 0, 0, 2, 1, 0, false⟩
theorem SV11 : SV 0 0 0 0 1 1 := by constructor <;> decide
theorem Lies.first {w : World} {B : Nat} {sa : Option Addr} {k m n : Nat} {f g : Nat → List Value} (hm : m ≤ n) (h : Lies w B sa k n f) (hfg : ∀ i, i < m → f i = g i) : Lies w B sa k m g := fun i hi => by
  obtain ⟨b, o, h1, h2, h3⟩ := h i (by omega)
  exact ⟨b, o, h1, h2, by rw [← hfg i hi]; exact h3⟩
set_option maxHeartbeats 8000000 in
theorem awake41 (w : World) (hN : Nm w) : Calls Tryd.prog 28 #[] w (Gives (.bool true) w) := by
  have hC : CodeOk 2 2 2 1 := .inr ⟨rfl, by decide, by decide, by decide⟩
  have e1 : okS 0 0 0 0 1 1 (nC 2 2 2) 0 [stA, stB] = true := by decide +kernel
  have e2 : wB 0 0 0 0 1 1 2 2 2 1 [stA, stB] = false := by decide +kernel
  have e3 : wB 0 0 0 0 1 1 2 2 2 1 [stA] = true := by decide +kernel
  have e4 : wst (nOf 0 0 0 0 1 1 [stA, stB] 1099511627776) (2 ^ ((0 : Int) + 0 + 0 + 0 + 1 + 1).toNat) = (0, 2) := by decide +kernel
  have e5 : (chL (mkI [stA, stB] (atF 0 0 0 0 1 1 0) 2) 40).length = 1 := by decide +kernel
  have hva : ∀ sa c w, Nm w → Lies w w.heap.size sa 12 2 (fun j => stC [stA, stB][j]!) → Calls Tryd.prog 56 #[v6 0 0 0 0 1 1, vC 2 2 2 1, .slice sa 2 c] w (Gives (.bool true) w) := fun sa c w hN hl => by
    have := ivalid_any SV11 hC (sa := sa) c (xs := [stA, stB]) (by decide) w hN hl
    rwa [e1] at this
  have hwi : ∀ sa c w, Nm w → Lies w w.heap.size sa 12 2 (fun j => stC [stA, stB][j]!) → Calls Tryd.prog 34 #[v6 0 0 0 0 1 1, vC 2 2 2 1, .slice sa 2 c] w (Gives (.bool false) w) := fun sa c w hN hl => by
    have := within_any SV11 hC (sa := sa) c (xs := [stA, stB]) (by decide) w hN hl
    rwa [e2] at this
  have hw1 : ∀ sa c w, Nm w → Lies w w.heap.size sa 12 1 (fun j => stC [stA][j]!) → Calls Tryd.prog 34 #[v6 0 0 0 0 1 1, vC 2 2 2 1, .slice sa 1 c] w (Gives (.bool true) w) := fun sa c w hN hl => by
    have := within_any SV11 hC (sa := sa) c (xs := [stA]) (by decide) w hN hl
    rwa [e3] at this
  have hwo : ∀ sa c w, Nm w → Lies w w.heap.size sa 12 2 (fun j => stC [stA, stB][j]!) → Calls Tryd.prog 43 #[v6 0 0 0 0 1 1, .slice sa 2 c] w (Gives (.tuple #[.int .i64 0, .int .i64 2]) w) := fun sa c w hN hl => by
    have := worst_is SV11 (sa := sa) c (xs := [stA, stB]) (by decide) w hN hl
    rw [e4] at this
    exact this
  have hch : ∀ sa c w, Nm w → Lies w w.heap.size sa 12 2 (fun j => stC [stA, stB][j]!) → Calls Tryd.prog 33 #[v6 0 0 0 0 1 1, .slice sa 2 c, .int .i64 0, .int .i64 2] w (GivesRow (chL (mkI [stA, stB] (atF 0 0 0 0 1 1 0) 2) 40) w) := fun sa c w hN hl =>
    chips_is SV11 (by decide) (by decide +kernel) c (xs := [stA, stB]) (by decide) w hN hl
  generalize chL (mkI [stA, stB] (atF 0 0 0 0 1 1 0) 2) 40 = L1 at e5 hch
  have HVA := Lib.hid hva
  have HWI := Lib.hid hwi
  have HW1 := Lib.hid hw1
  have HWO := Lib.hid hwo
  have HCH := Lib.hid hch
  have HE5 := Lib.hid e5
  have HNm := Lib.hid hN
  clear hva hwi hw1 hwo hch e1 e2 e3 e4 e5 hC hN
  go_enter Tryd.func28, Tryd.ntmps28
  have H := HS.start NoD w
  go_wp2_with fail
  generalize hwb : ((w.alloc _).alloc _).alloc _ = w1
  replace H := HS.eqW hwb H.alloc.alloc.alloc
  try simp only [World.size_alloc, List.nil_append, List.cons_append, List.append_assoc] at H
  clear hwb
  generalize w.heap.size + 2 = bC at H ⊢
  generalize w.heap.size + 1 = bL at H ⊢
  generalize w.heap.size = bS at H ⊢
  try clear C
  have C := H.cells
  try simp only [cellsOf, apartOf, and_true] at C
  refine (HWO.out _ _ _ (HNm.out.below H.done) (H.blkLies 1 stC_len (xs := [stA, stB]) rfl rfl rfl)).mono ?_
  rintro _ w2 ⟨rfl, hb⟩
  replace H := H.below hb
  clear hb
  try clear C
  try simp only [World.size_alloc, List.nil_append, List.cons_append, List.append_assoc] at H
  try clear w1
  have C := H.cells
  try simp only [cellsOf, apartOf, and_true] at C
  dsimp only
  go_wp2_with fail
  refine wp_region_xH (by kernel_rfl) (by kernel_rfl) (by kernel_rfl) (by kernel_rfl) (fun _ => False) (H) ?_
  clear H; intro w3 H hz0 hs0
  try clear C
  try simp only [World.size_alloc, List.nil_append, List.cons_append, List.append_assoc] at H hz0
  clear hz0
  try clear w2
  have C := H.cells
  try simp only [cellsOf, apartOf, and_true] at C
  have Z := H.zs
  try simp only [ltsOf, and_true] at Z
  have hz0 := Nat.le_refl w3.heap.size
  repeat (first | (refine wpX_skip rfl ?_; go_simp) | (refine wpX_free rfl rfl rfl (fun K hK => ?_); go_step; refine hK _ _ ?_; clear hK K) | (refine wpX_load rfl rfl rfl (by simp [Stay, OneD, NoD, *]) hs0 (by simp [*]) (fun K hK => ?_); go_step; refine hK _ _ ?_; clear hK K))
  refine wpX_eff rfl rfl (fun _ _ => ?_)
  go_step
  refine (HVA.out _ _ _ (HNm.out.below H.done) (H.blkLies 1 stC_len (xs := [stA, stB]) rfl rfl rfl)).mono ?_
  rintro _ w4 ⟨rfl, hb⟩
  replace hs0 := hs0.belowS hz0 hb
  replace hz0 := Nat.le_trans hz0 hb.size
  replace H := H.below hb
  clear hb
  try clear C
  have C := H.cells
  try simp only [cellsOf, apartOf, and_true] at C
  try clear w3
  dsimp only
  go_step
  refine ⟨hs0, ?_⟩
  repeat (first | (refine wpX_skip rfl ?_; go_simp) | (refine wpX_free rfl rfl rfl (fun K hK => ?_); go_step; refine hK _ _ ?_; clear hK K) | (refine wpX_load rfl rfl rfl (by simp [Stay, OneD, NoD, *]) hs0 (by simp [*]) (fun K hK => ?_); go_step; refine hK _ _ ?_; clear hK K))
  refine wpX_eff rfl rfl (fun _ _ => ?_)
  go_step
  refine (HWI.out _ _ _ (HNm.out.below H.done) (H.blkLies 1 stC_len (xs := [stA, stB]) rfl rfl rfl)).mono ?_
  rintro _ w5 ⟨rfl, hb⟩
  replace hs0 := hs0.belowS hz0 hb
  replace hz0 := Nat.le_trans hz0 hb.size
  replace H := H.below hb
  clear hb
  try clear C
  have C := H.cells
  try simp only [cellsOf, apartOf, and_true] at C
  try clear w4
  dsimp only
  go_step
  refine ⟨hs0, ?_⟩
  repeat (first | (refine wpX_skip rfl ?_; go_simp) | (refine wpX_free rfl rfl rfl (fun K hK => ?_); go_step; refine hK _ _ ?_; clear hK K) | (refine wpX_load rfl rfl rfl (by simp [Stay, OneD, NoD, *]) hs0 (by simp [*]) (fun K hK => ?_); go_step; refine hK _ _ ?_; clear hK K))
  (refine wpX_yield rfl rfl ((.slice (some ⟨bL, 0, none⟩) 1 2)) (fun w hw => by go_simp) ?_; go_simp)
  repeat (first | (refine wpX_skip rfl ?_; go_simp) | (refine wpX_free rfl rfl rfl (fun K hK => ?_); go_step; refine hK _ _ ?_; clear hK K) | (refine wpX_load rfl rfl rfl (by simp [Stay, OneD, NoD, *]) hs0 (by simp [*]) (fun K hK => ?_); go_step; refine hK _ _ ?_; clear hK K))
  refine wpX_eff rfl rfl (fun _ _ => ?_)
  go_step
  refine (HW1.out _ _ _ (HNm.out.below H.done) (Lies.first (n := 2) (by decide) (H.blkLies 1 stC_len (xs := [stA, stB]) rfl rfl rfl) (fun i hi => by obtain rfl : i = 0 := (by omega); rfl))).mono ?_
  rintro _ w6 ⟨rfl, hb⟩
  replace hs0 := hs0.belowS hz0 hb
  replace hz0 := Nat.le_trans hz0 hb.size
  replace H := H.below hb
  clear hb
  try clear C
  have C := H.cells
  try simp only [cellsOf, apartOf, and_true] at C
  try clear w5
  dsimp only
  go_step
  refine ⟨hs0, ?_⟩
  repeat (first | (refine wpX_skip rfl ?_; go_simp) | (refine wpX_free rfl rfl rfl (fun K hK => ?_); go_step; refine hK _ _ ?_; clear hK K) | (refine wpX_load rfl rfl rfl (by simp [Stay, OneD, NoD, *]) hs0 (by simp [*]) (fun K hK => ?_); go_step; refine hK _ _ ?_; clear hK K))
  refine wpX_eff rfl rfl (fun _ _ => ?_)
  go_step
  refine (HCH.out _ _ _ (HNm.out.below H.done) (H.blkLies 1 stC_len (xs := [stA, stB]) rfl rfl rfl)).mono ?_
  rintro _ w7 ⟨v, rfl, hr, hb⟩
  replace hs0 := hs0.belowS hz0 hb
  replace hz0 := Nat.le_trans hz0 hb.size
  replace H := H.getsRow hb hr
  clear hb hr
  try simp only [List.nil_append, List.cons_append, List.append_assoc] at H
  try clear C
  have C := H.cells
  try simp only [cellsOf, apartOf, and_true] at C
  try clear w6
  dsimp only
  go_step
  refine ⟨hs0, ?_⟩
  obtain ⟨s2, d2, rfl⟩ := ownsRow_slice (H.at 3 rfl)
  have e5 := HE5.out
  repeat (first | (refine wpX_skip rfl ?_; go_simp) | (refine wpX_free rfl rfl rfl (fun K hK => ?_); go_step; refine hK _ _ ?_; clear hK K) | (refine wpX_load rfl rfl rfl (by simp [Stay, OneD, NoD, *]) hs0 (by simp [*]) (fun K hK => ?_); go_step; refine hK _ _ ?_; clear hK K))
  (refine wpX_nil ?_; go_step)
  go_wp2_with fail
  go_ret
  exact ⟨rfl, H.done⟩
end Go.Proofs.YtaeockopliplfaaDoor
