/- The statement PartFaults: its walk. -/
import Derived.Test.YtaeockopliplfaaDoorAwake
import Derived.Test.YtaeockopliplfaaDoorShape
import Derived.Test.YtaeockopliplfaaDoorDivMath
import Derived.Test.YtaeockopliplfaaDoorFltMath
namespace Go.Proofs.YtaeockopliplfaaDoor
set_option linter.unusedSimpArgs false
set_option linter.unusedVariables false
open Go.RowKit
set_option maxRecDepth 100000
attribute [local go_sem] lt_more ne_more ne_more'

theorem Cls.chg {St : Nat → Prop} {I : World → Prop} {w0 w w' : World} {F : Fl} {b : Nat} (h : Cls St I w0 F w) (hst : ∀ k, St k → k < w0.heap.size ∧ k ≠ b) (hb : b < w0.heap.size) (hg : Chg b w w') (hI : I w') : Cls St I w0 F w' :=
  ⟨fun k hk => (hg.block k (Nat.lt_of_lt_of_le (hst k hk).1 h.size) (hst k hk).2).trans (h.same k hk), hI, Nat.le_trans h.size hg.size, fun c x hx => ⟨(h.laid c x hx).1, (h.laid c x hx).2.chg hg (by have := (h.laid c x hx).1; omega)⟩⟩
theorem lasting_dice {N : Nat} {W : World} {b : Nat} (hN : W.heap.size ≤ N) (hb : b < N) : Lasting N (fun w => Below W.heap.size W w ∧ Dice W.heap.size w b) :=
  ⟨fun w o h => ⟨h.1.alloc h.1.size o, h.2.alloc o⟩, fun w c cs hc h => ⟨(lasting_below hN).row w c cs hc h.1, h.2.of_blocks (heap_setRow_other _ _ _ _ (by omega)) (fun k hk _ => heap_setRow_other _ _ _ _ (by omega))⟩⟩

/-- What the law has found of the kinds below k. -/
def cvB (p0 p1 p2 p3 p4 p5 q0 q1 q2 q3 q4 q5 : Int) (k j : Nat) : Bool := decide (1 ≤ j ∧ j < k) && decide (CV j p0 p1 p2 p3 p4 p5 q0 q1 q2 q3 q4 q5)
def rowB (g : Nat → Bool) (n : Nat) : Array Value := ((List.range n).map fun j => Value.bool (g j)).toArray
theorem rowB_at {g : Nat → Bool} {n j : Nat} (hj : j < n) : (rowB g n)[j]? = some (.bool (g j)) := by simp [rowB, hj]
theorem rowB_set {g g' : Nat → Bool} {n l : Nat} {v : Bool} (h : ∀ j, j < n → g' j = if j = l then v else g j) : (rowB g n).setIfInBounds l (.bool v) = rowB g' n := by
  apply Array.ext_getElem?
  intro j
  rw [Array.getElem?_setIfInBounds]
  by_cases hj : j < n
  · rw [rowB_at hj, rowB_at hj, h j hj]
    by_cases e : l = j
    · subst e; simp [rowB, hj]
    · rw [if_neg e, if_neg (fun x => e x.symm)]
  · have : n ≤ j := by omega
    split
    · rw [if_neg (by simp [rowB]; omega)]; simp [rowB, this]
    · simp [rowB, this]
theorem sizes_at (a2 a3 a4 a5 : Int) (k : Nat) (hk : 1 ≤ k ∧ k ≤ 6) : (#[Value.int .i64 0, .int .i64 0, .int .i64 a5, .int .i64 a4, .int .i64 (a4 + a5), .int .i64 (a3 + a4 + a5), .int .i64 (a2 + a3 + a4 + a5)])[k]? = some (.int .i64 (freeBits a2 a3 a4 a5 k)) := by
  have : k = 1 ∨ k = 2 ∨ k = 3 ∨ k = 4 ∨ k = 5 ∨ k = 6 := by omega
  rcases this with rfl | rfl | rfl | rfl | rfl | rfl <;> simp [freeBits]

/-- All that may have been found: seven cases. -/
theorem cv_cases (p0 p1 p2 p3 p4 p5 q0 q1 q2 q3 q4 q5 : Int) : ∃ c1 c2 c3 c4 c5 c6 : Bool, rowB (cvB p0 p1 p2 p3 p4 p5 q0 q1 q2 q3 q4 q5 7) 7 = #[.bool false, .bool c1, .bool c2, .bool c3, .bool c4, .bool c5, .bool c6] ∧
    ((c1 = true ∧ c2 = true ∧ c3 = true ∧ c4 = true ∧ c5 = true ∧ c6 = true ∧ (p0 = q0 ∧ p1 = q1 ∧ p2 = q2 ∧ p3 = q3 ∧ p4 = q4 ∧ p5 = q5)) ∨
     (c1 = false ∧ ¬ (p0 = q0 ∧ p1 = q1 ∧ p2 = q2 ∧ p3 = q3 ∧ p4 = q4 ∧ p5 = q5) ∧ (
       (c2 = true ∧ c3 = false ∧ c4 = true ∧ c5 = true ∧ c6 = true) ∨ (c2 = false ∧ c3 = true ∧ c4 = true ∧ c5 = true ∧ c6 = true) ∨ (c2 = false ∧ c3 = false ∧ c4 = true ∧ c5 = true ∧ c6 = true) ∨
       (c2 = false ∧ c3 = false ∧ c4 = false ∧ c5 = true ∧ c6 = true) ∨ (c2 = false ∧ c3 = false ∧ c4 = false ∧ c5 = false ∧ c6 = true) ∨ (c2 = false ∧ c3 = false ∧ c4 = false ∧ c5 = false ∧ c6 = false)))) := by
  refine ⟨decide (CV 1 p0 p1 p2 p3 p4 p5 q0 q1 q2 q3 q4 q5), decide (CV 2 p0 p1 p2 p3 p4 p5 q0 q1 q2 q3 q4 q5), decide (CV 3 p0 p1 p2 p3 p4 p5 q0 q1 q2 q3 q4 q5), decide (CV 4 p0 p1 p2 p3 p4 p5 q0 q1 q2 q3 q4 q5), decide (CV 5 p0 p1 p2 p3 p4 p5 q0 q1 q2 q3 q4 q5), decide (CV 6 p0 p1 p2 p3 p4 p5 q0 q1 q2 q3 q4 q5), ?_, ?_⟩
  · unfold rowB cvB
    simp [List.range_succ]
  · have h1 : CV 1 p0 p1 p2 p3 p4 p5 q0 q1 q2 q3 q4 q5 ↔ (p0 = q0 ∧ p1 = q1 ∧ p2 = q2 ∧ p3 = q3 ∧ p4 = q4 ∧ p5 = q5) :=
      ⟨fun ⟨a, b, c, d, e, f⟩ => ⟨a, b, c (by decide), d (by decide), e (by decide), f (by decide)⟩, fun ⟨a, b, c, d, e, f⟩ => ⟨a, b, fun _ => c, fun _ => d, fun _ => e, fun _ => f⟩⟩
    have h2 : CV 2 p0 p1 p2 p3 p4 p5 q0 q1 q2 q3 q4 q5 ↔ (p0 = q0 ∧ p1 = q1 ∧ p2 = q2 ∧ p3 = q3 ∧ p4 = q4) :=
      ⟨fun ⟨a, b, c, d, e, f⟩ => ⟨a, b, c (by decide), d (by decide), e (by decide)⟩, fun ⟨a, b, c, d, e⟩ => ⟨a, b, fun _ => c, fun _ => d, fun _ => e, fun h => absurd h (by decide)⟩⟩
    have h3 : CV 3 p0 p1 p2 p3 p4 p5 q0 q1 q2 q3 q4 q5 ↔ (p0 = q0 ∧ p1 = q1 ∧ p2 = q2 ∧ p3 = q3 ∧ p5 = q5) :=
      ⟨fun ⟨a, b, c, d, e, f⟩ => ⟨a, b, c (by decide), d (by decide), f (by decide)⟩, fun ⟨a, b, c, d, f⟩ => ⟨a, b, fun _ => c, fun _ => d, fun h => absurd h (by decide), fun _ => f⟩⟩
    have h4 : CV 4 p0 p1 p2 p3 p4 p5 q0 q1 q2 q3 q4 q5 ↔ (p0 = q0 ∧ p1 = q1 ∧ p2 = q2 ∧ p3 = q3) :=
      ⟨fun ⟨a, b, c, d, e, f⟩ => ⟨a, b, c (by decide), d (by decide)⟩, fun ⟨a, b, c, d⟩ => ⟨a, b, fun _ => c, fun _ => d, fun h => absurd h (by decide), fun h => absurd h (by decide)⟩⟩
    have h5 : CV 5 p0 p1 p2 p3 p4 p5 q0 q1 q2 q3 q4 q5 ↔ (p0 = q0 ∧ p1 = q1 ∧ p2 = q2) :=
      ⟨fun ⟨a, b, c, d, e, f⟩ => ⟨a, b, c (by decide)⟩, fun ⟨a, b, c⟩ => ⟨a, b, fun _ => c, fun h => absurd h (by decide), fun h => absurd h (by decide), fun h => absurd h (by decide)⟩⟩
    have h6 : CV 6 p0 p1 p2 p3 p4 p5 q0 q1 q2 q3 q4 q5 ↔ (p0 = q0 ∧ p1 = q1) :=
      ⟨fun ⟨a, b, c, d, e, f⟩ => ⟨a, b⟩, fun ⟨a, b⟩ => ⟨a, b, fun h => absurd h (by decide), fun h => absurd h (by decide), fun h => absurd h (by decide), fun h => absurd h (by decide)⟩⟩
    simp only [h1, h2, h3, h4, h5, h6, decide_eq_true_eq, decide_eq_false_iff_not]
    by_cases e0 : p0 = q0 <;> by_cases e1 : p1 = q1 <;> by_cases e2 : p2 = q2 <;> by_cases e3 : p3 = q3 <;> by_cases e4 : p4 = q4 <;> by_cases e5 : p5 = q5 <;> simp [e0, e1, e2, e3, e4, e5]

set_option maxHeartbeats 8000000 in
theorem faults_walk (sa : Option Addr) (len cap : Nat) (hl : len ≤ maxLen) (w : World) (hN : Nm w) (hI : Ints w sa len) :
    Calls Tryd.prog 4 #[.slice sa len cap] w (Gives (.bool true) w) := by
  by_cases h400 : len ≤ 400
  · have hli : ∀ w, Calls Tryd.prog 11 #[.slice sa len cap] w fun e w' => e = .returned (.bool true) ∧ w = w' := fun w => by
      have := light_any sa len cap hl w
      rwa [decide_eq_true h400] at this
    have HLI := Lib.hid hli
    have HI := Lib.hid hI
    have HN := Lib.hid hN
    clear hli hI hl hN
    go_enter Tryd.func4, Tryd.ntmps4
    -- Light, Roll
    go_wp2_with (go_at_call 11; refine (HLI.out _).mono ?_; rintro _ w1 ⟨rfl, rfl⟩)
    refine (roll_any sa len cap h400 w HI.out).mono ?_
    rintro _ w1 ⟨b, rfl, hd, hB, hbb⟩
    -- Shape
    go_wp2_with fail
    refine (shape_any 8 (by decide) w.heap.size b w1 hd).mono ?_
    rintro _ w2 ⟨a0, a1, a2, a3, a4, a5, rfl, hS, hsm, hd2, hg2⟩
    replace hB := hg2.below hB hbb hB.size
    have HS := Lib.hid hS
    have hb2 := hd2.lt
    clear hd hg2 HLI HI
    go_wp2_with fail
    have SW : Blk (w2.alloc (.cells #[.int .i64 a0, .int .i64 a1, .int .i64 a2, .int .i64 a3, .int .i64 a4, .int .i64 a5] 28)) w2.heap.size #[.int .i64 a0, .int .i64 a1, .int .i64 a2, .int .i64 a3, .int .i64 a4, .int .i64 a5] 28 := Blk.new w2 _ _
    have hBW : Below w.heap.size w (w2.alloc (.cells #[.int .i64 a0, .int .i64 a1, .int .i64 a2, .int .i64 a3, .int .i64 a4, .int .i64 a5] 28)) := hB.alloc hB.size _
    have hdW := hd2.alloc (.cells #[.int .i64 a0, .int .i64 a1, .int .i64 a2, .int .i64 a3, .int .i64 a4, .int .i64 a5] 28)
    have hsz := hB.size
    clear hB hd2
    generalize w2.alloc (.cells #[.int .i64 a0, .int .i64 a1, .int .i64 a2, .int .i64 a3, .int .i64 a4, .int .i64 a5] 28) = W at SW hBW hdW ⊢
    obtain ⟨s, hs⟩ : ∃ s, s = w2.heap.size := ⟨_, rfl⟩
    rw [← hs] at SW hb2 hsz ⊢
    clear hs w2
    have zS := SW.lt
    have zb := hdW.lt
    -- both places
    refine wp_region_f (by kernel_rfl) [0, 1, 2, 3, 4, 5, 6, 7, 8, 9] (by kernel_rfl) (by kernel_rfl) (by kernel_rfl) (fun k => k < W.heap.size ∧ k ≠ b) (fun w' => Below w.heap.size w w' ∧ Dice w.heap.size w' b) (fun _ h => h.1) (lasting_dice (by omega) (by omega)) ⟨hBW.drew, hdW.drew⟩ ?_
    intro w0 hw0
    have S0 : Blk w0 s #[.int .i64 a0, .int .i64 a1, .int .i64 a2, .int .i64 a3, .int .i64 a4, .int .i64 a5] 28 := by rw [hw0]; exact SW.drew
    have hz0 : W.heap.size = w0.heap.size := by rw [hw0]; rfl
    rw [hz0] at zS zb ⊢
    clear hw0 hz0 SW hBW hdW W
    have cS := S0.cell
    have hsb : s ≠ b := by omega
    have hdb := hbb
    simp only [List.filterMap_cons, List.filterMap_nil, List.getElem?_toArray, List.getElem?_cons_zero, List.getElem?_cons_succ]
    refine wpF_free rfl rfl rfl (fun _ _ => ?_)
    go_step
    go_step
    refine wpF_load rfl rfl rfl ⟨zS, hsb⟩ (by simp [*]) (fun _ _ => ?_)
    go_step
    go_step
    refine wpF_call rfl rfl (fun w1 hc1 _ _ => ?_)
    go_step
    refine (place_any HS.out w.heap.size b w1 hc1.inv.2).mono ?_
    rintro _ w2 ⟨p0, p1, p2, p3, p4, p5, rfl, hp, hd2, hg2⟩
    dsimp only
    go_step
    refine ⟨hc1.chg (fun _ h => h) zb hg2 ⟨hg2.below hc1.inv.1 hdb hc1.inv.1.size, hd2⟩, fun k hk1 hk2 => hg2.block k hk2 (by omega), ?_⟩
    have HP := Lib.hid hp
    clear hp hd2 hg2 hc1 w1 w2
    refine wpF_free rfl rfl rfl (fun _ _ => ?_)
    go_step
    go_step
    refine wpF_load rfl rfl rfl ⟨zS, hsb⟩ (by simp [*]) (fun _ _ => ?_)
    go_step
    go_step
    refine wpF_call rfl rfl (fun w1 hc1 _ _ => ?_)
    go_step
    refine (place_any HS.out w.heap.size b w1 hc1.inv.2).mono ?_
    rintro _ w2 ⟨q0, q1, q2, q3, q4, q5, rfl, hq, hd2, hg2⟩
    dsimp only
    go_step
    refine ⟨hc1.chg (fun _ h => h) zb hg2 ⟨hg2.below hc1.inv.1 hdb hc1.inv.1.size, hd2⟩, fun k hk1 hk2 => hg2.block k hk2 (by omega), ?_⟩
    have HQ := Lib.hid hq
    clear hq hd2 hg2 hc1 w1 w2
    refine wpF_float rfl rfl #[.int .i64 0, .int .i64 0, .int .i64 0, .int .i64 0, .int .i64 0, .int .i64 0] 32 (fun w => by kernel_rfl) (fun b5 hb5 hn5 _ _ => ?_)
    go_simp
    go_step
    refine wpF_float rfl rfl #[.int .i64 0, .int .i64 0, .int .i64 0, .int .i64 0, .int .i64 0, .int .i64 0] 32 (fun w => by kernel_rfl) (fun b6 hb6 hn6 _ _ => ?_)
    go_simp
    go_step
    have hne : b6 ≠ b5 := fun e => by rw [e] at hn6; simp [Fl.put] at hn6
    refine wpF_store (cs := #[.int .i64 p0, .int .i64 p1, .int .i64 p2, .int .i64 p3, .int .i64 p4, .int .i64 p5]) rfl rfl rfl rfl ((Fl.ne _ (Ne.symm hne) _).trans (Fl.at _ _ _)) rfl (by kernel_rfl) rfl rfl (fun _ _ => ?_)
    go_simp
    go_step
    refine wpF_store (cs := #[.int .i64 q0, .int .i64 q1, .int .i64 q2, .int .i64 q3, .int .i64 q4, .int .i64 q5]) rfl rfl rfl rfl ((Fl.ne _ hne _).trans (Fl.at _ _ _)) rfl (by kernel_rfl) rfl rfl (fun _ _ => ?_)
    go_simp
    go_step
    refine wpF_nil ?_
    intro w3 hC
    have P3 : Blk w3 b5 #[.int .i64 p0, .int .i64 p1, .int .i64 p2, .int .i64 p3, .int .i64 p4, .int .i64 p5] 32 := (hC.laid b5 _ ((Fl.ne _ (Ne.symm hne) _).trans (Fl.at _ _ _))).2
    have Q3 : Blk w3 b6 #[.int .i64 q0, .int .i64 q1, .int .i64 q2, .int .i64 q3, .int .i64 q4, .int .i64 q5] 32 := (hC.laid b6 _ (Fl.at _ _ _)).2
    have hB3 := hC.inv.1
    have S3 : Blk w3 s #[.int .i64 a0, .int .i64 a1, .int .i64 a2, .int .i64 a3, .int .i64 a4, .int .i64 a5] 28 := (hC.same _ ⟨zS, hsb⟩).trans S0
    clear hC cS S0
    have hsb5 : s < b5 := by omega
    have hsb6 : s < b6 := by omega
    clear hb5 hn5 hb6 hn6 zb hbb hb2 zS hsb hdb
    go_step
    go_step
    replace cS := S3.cell
    have lS := S3.lt
    have l5 := P3.lt
    have l6 := Q3.lt
    obtain ⟨hwa, hwb, hwc, hwd, hwe⟩ : wrap64 (a4 + a5) = a4 + a5 ∧ wrap64 (a3 + a4) = a3 + a4 ∧ wrap64 (a3 + a4 + a5) = a3 + a4 + a5 ∧ wrap64 (a2 + a3) = a2 + a3 ∧ wrap64 (a2 + a3 + a4) = a2 + a3 + a4 := by
      obtain ⟨h0, h1, h2, h3, h4, h5, hs⟩ := HS.out
      refine ⟨?_, ?_, ?_, ?_, ?_⟩ <;> exact IntWalk.wrap64_in _ (by omega)
    have hwf : wrap64 (a2 + a3 + a4 + a5) = a2 + a3 + a4 + a5 := by
      obtain ⟨h0, h1, h2, h3, h4, h5, hs⟩ := HS.out
      exact IntWalk.wrap64_in _ (by omega)
    clear hS
    go_wp2_with fail
    rw [hwa, hwc, hwf]
    have hW : ∃ W, W = (w3.alloc (.cells #[.int .i64 0, .int .i64 0, .int .i64 a5, .int .i64 a4, .int .i64 (a4 + a5), .int .i64 (a3 + a4 + a5), .int .i64 (a2 + a3 + a4 + a5)] 41)).alloc (.cells #[.bool false, .bool false, .bool false, .bool false, .bool false, .bool false, .bool false] 42) := ⟨_, rfl⟩
    obtain ⟨W, hW⟩ := hW
    have SW : Blk W s #[.int .i64 a0, .int .i64 a1, .int .i64 a2, .int .i64 a3, .int .i64 a4, .int .i64 a5] 28 := by rw [hW]; exact (S3.alloc _).alloc _
    have PW : Blk W b5 #[.int .i64 p0, .int .i64 p1, .int .i64 p2, .int .i64 p3, .int .i64 p4, .int .i64 p5] 32 := by rw [hW]; exact (P3.alloc _).alloc _
    have QW : Blk W b6 #[.int .i64 q0, .int .i64 q1, .int .i64 q2, .int .i64 q3, .int .i64 q4, .int .i64 q5] 32 := by rw [hW]; exact (Q3.alloc _).alloc _
    obtain ⟨Z, hZ⟩ : ∃ Z, Z = w3.heap.size := ⟨_, rfl⟩
    have ZW : Blk W Z #[.int .i64 0, .int .i64 0, .int .i64 a5, .int .i64 a4, .int .i64 (a4 + a5), .int .i64 (a3 + a4 + a5), .int .i64 (a2 + a3 + a4 + a5)] 41 := by rw [hW, hZ]; exact (Blk.new w3 _ _).alloc _
    have CW : Blk W (Z + 1) (rowB (cvB p0 p1 p2 p3 p4 p5 q0 q1 q2 q3 q4 q5 1) 7) 42 := by
      rw [hW, hZ]
      have h1 : rowB (cvB p0 p1 p2 p3 p4 p5 q0 q1 q2 q3 q4 q5 1) 7 = #[.bool false, .bool false, .bool false, .bool false, .bool false, .bool false, .bool false] := by
        unfold rowB cvB
        simp [List.range_succ]
      rw [h1]
      have := Blk.new (w3.alloc (.cells #[.int .i64 0, .int .i64 0, .int .i64 a5, .int .i64 a4, .int .i64 (a4 + a5), .int .i64 (a3 + a4 + a5), .int .i64 (a2 + a3 + a4 + a5)] 41)) #[.bool false, .bool false, .bool false, .bool false, .bool false, .bool false, .bool false] 42
      simpa using this
    have hBW : Below w.heap.size w W := by rw [hW]; exact (hB3.alloc hB3.size _).alloc (by have := hB3.size; simp; omega) _
    have hNW := Lib.hid (HN.out.below hBW)
    rw [← hW]
    rw [← hZ] at lS l5 l6 ⊢
    clear hW hZ S3 P3 Q3 hB3 cS w3 hwa hwb hwc hwd hwe hwf w1 w0 hne
    go_loopw [9] (fun c wr => ∃ k : Nat, 1 ≤ k ∧ k ≤ 7 ∧ c = .int .i64 k ∧ Blk wr s #[.int .i64 a0, .int .i64 a1, .int .i64 a2, .int .i64 a3, .int .i64 a4, .int .i64 a5] 28 ∧ Blk wr b5 #[.int .i64 p0, .int .i64 p1, .int .i64 p2, .int .i64 p3, .int .i64 p4, .int .i64 p5] 32 ∧ Blk wr b6 #[.int .i64 q0, .int .i64 q1, .int .i64 q2, .int .i64 q3, .int .i64 q4, .int .i64 q5] 32 ∧
      Blk wr Z #[.int .i64 0, .int .i64 0, .int .i64 a5, .int .i64 a4, .int .i64 (a4 + a5), .int .i64 (a3 + a4 + a5), .int .i64 (a2 + a3 + a4 + a5)] 41 ∧ Blk wr (Z + 1) (rowB (cvB p0 p1 p2 p3 p4 p5 q0 q1 q2 q3 q4 q5 k) 7) 42 ∧ Below w.heap.size w wr ∧ Hid (Nm wr)) (fun c _ => 7 - (intOf c).toNat)
    case atStart => exact ⟨1, by decide, by decide, rfl, SW, PW, QW, ZW, CW, hBW, hNW⟩
    case round =>
      clear SW PW QW ZW CW hBW hNW W
      obtain ⟨k, hk1, hk7, rfl, S, P, Q, Zb, C, hB, hNr⟩ := hrel
      obtain ⟨wo, hwo⟩ : ∃ wo : World, wo = wr := ⟨_, rfl⟩
      rw [← hwo] at S P Q Zb C hB hNr ⊢
      clear hwo wr
      by_cases hk : k < 7
      · have hkI : 1 ≤ (k : Int) ∧ (k : Int) ≤ 6 := by omega
        have hkI2 := hkI.2
        have hcount := cov_count (k := k) HS.out HP.out hkI
        have hcov := fun w => covered_yes HS.out k p0 p1 p2 p3 p4 p5 0 1 0 false hkI w
        have cS := S.cell
        have cP := P.cell
        have cQ := Q.cell
        have lS2 := S.lt
        have lP2 := P.lt
        have lQ2 := Q.lt
        have lZ2 := Zb.lt
        have lC2 := C.lt
        have HCOV := Lib.hid hcov
        have HCNT := Lib.hid hcount
        clear hcov hcount
        go_wp2_with fail
        refine (HCOV.out _ (hNr.out.below ((Below.refl _ _).alloc (Nat.le_refl _) _))).mono ?_
        rintro _ w6 ⟨v, rfl, hrow, hb6⟩
        have S6 := (S.alloc _).below hb6
        have P6 := (P.alloc _).below hb6
        have Q6 := (Q.alloc _).below hb6
        have Z6 := (Zb.alloc _).below hb6
        have C6 := (C.alloc _).below hb6
        have F6 : Blk w6 wo.heap.size (#[.int .i64 k, .int .i64 p0, .int .i64 p1, .int .i64 p2, .int .i64 p3, .int .i64 p4, .int .i64 p5, .int .i64 0, .int .u8 1, .int .u8 0, .bool false]) 44 := (Blk.new wo _ _).below hb6
        have hB6 := (hB.alloc hB.size _).trans (hb6.mono (by have := hB.size; simp; omega))
        have hN6 := Lib.hid ((hNr.out.below ((Below.refl _ _).alloc (Nat.le_refl _) _)).below hb6)
        have hLp : 0 < (covL a0 a1 a2 a3 a4 a5 k p0 p1 p2 p3 p4 p5 (2 ^ (a0 + a1 + a2 + a3 + a4 + a5).toNat)).length := by rw [HCNT.out]; exact Nat.pow_pos (by decide)
        obtain ⟨g, cp, rfl, hg, hgl, -⟩ := hrow.at hLp
        obtain ⟨z, hz⟩ : ∃ z, z = freeBits a2 a3 a4 a5 k := ⟨_, rfl⟩
        have hzz : 0 ≤ z ∧ z ≤ 12 := by
          obtain ⟨h0, h1, h2, h3, h4, h5, hs⟩ := HS.out
          rw [hz]; unfold freeBits; repeat' split
          all_goals omega
        rw [HCNT.out, ← hz]
        obtain ⟨L, hL⟩ : ∃ L : Nat, L = 2 ^ z.toNat := ⟨_, rfl⟩
        have hLI : (2 : Int) ^ z.toNat = (L : Int) := by rw [hL]; simp
        rw [← hL]
        have HLI := Lib.hid hLI
        have hLw : wrap64 (2 ^ z.toNat) = (L : Int) := by rw [hLI]; exact IntWalk.wrap64_in _ (by have := pw_12 (a := z) hzz.2; omega)
        have hp12 := pw_12 (a := z) hzz.2
        rw [hLI] at hp12
        clear hL hLI
        have cZ : w6.cell? ⟨Z, k, none⟩ = some (.int .i64 z) := by rw [hz]; exact (Z6.cell k).trans (sizes_at a2 a3 a4 a5 k ⟨hk1, by omega⟩)
        replace cS := S6.cell
        replace cP := P6.cell
        replace cQ := Q6.cell
        have cF := F6.cell
        replace lS2 := S6.lt
        replace lP2 := P6.lt
        replace lQ2 := Q6.lt
        replace lZ2 := Z6.lt
        replace lC2 := C6.lt
        clear S P Q Zb C hB hb6 hNr hrow hz HCOV HCNT hLp
        have hcv1 : ∀ w, Nm w → Calls Tryd.prog 22 #[vF k p0 p1 p2 p3 p4 p5 0 1 0 false, v6 p0 p1 p2 p3 p4 p5] w (Gives (.bool true) w) := fun w hw => by
          have := covers_yes k p0 p1 p2 p3 p4 p5 0 1 0 p0 p1 p2 p3 p4 p5 false hkI w hw
          rwa [decide_eq_true (show CV k p0 p1 p2 p3 p4 p5 p0 p1 p2 p3 p4 p5 from ⟨rfl, rfl, fun _ => rfl, fun _ => rfl, fun _ => rfl, fun _ => rfl⟩)] at this
        have HCV1 := Lib.hid hcv1
        clear hcv1
        dsimp only
        go_wp2_with fail
        refine (HCV1.out _ hN6.out).mono ?_
        rintro _ w7 ⟨rfl, hb7⟩
        have S7 := S6.below hb7
        have P7 := P6.below hb7
        have Q7 := Q6.below hb7
        have Z7 := Z6.below hb7
        have C7 := C6.below hb7
        have F7 := F6.below hb7
        have hB7 := hB6.trans (hb7.mono hB6.size)
        have hN7 := Lib.hid (hN6.out.below hb7)
        replace cP := P7.cell
        replace cQ := Q7.cell
        replace cF := F7.cell
        replace lC2 := C7.lt
        clear S6 P6 Q6 Z6 C6 F6 hB6 hN6 hb7 cS cZ lS2 lP2 lQ2 lZ2 HCV1 hLw
        go_wp2_with fail
        refine (covers_yes k p0 p1 p2 p3 p4 p5 0 1 0 q0 q1 q2 q3 q4 q5 false hkI _ hN7.out).mono ?_
        rintro _ w8 ⟨rfl, hb8⟩
        have S8 := S7.below hb8
        have P8 := P7.below hb8
        have Q8 := Q7.below hb8
        have Z8 := Z7.below hb8
        have C8 := C7.below hb8
        have hB8 := hB7.trans (hb8.mono hB7.size)
        have fC := C8.free k
        have cC := C8.cell k
        rw [rowB_at hk] at cC
        clear S7 P7 Q7 Z7 C7 F7 hB7 hN7 hb8 cP cQ cF
        go_wp2_with fail
        go_roundw
        case rel =>
          have hBs := hB8.setCell (p := ⟨Z + 1, k, none⟩) (by dsimp only; omega) (.bool (decide (CV k p0 p1 p2 p3 p4 p5 q0 q1 q2 q3 q4 q5)))
          refine ⟨k + 1, by omega, by omega, by go_num, S8.other (p := ⟨Z + 1, k, none⟩) (by dsimp only; omega) _, P8.other (p := ⟨Z + 1, k, none⟩) (by dsimp only; omega) _, Q8.other (p := ⟨Z + 1, k, none⟩) (by dsimp only; omega) _, Z8.other (p := ⟨Z + 1, k, none⟩) (by dsimp only; omega) _, ?_, hBs, Lib.hid (HN.out.below hBs)⟩
          have hCs := C8.set k (.bool (decide (CV k p0 p1 p2 p3 p4 p5 q0 q1 q2 q3 q4 q5)))
          rw [rowB_set (g' := cvB p0 p1 p2 p3 p4 p5 q0 q1 q2 q3 q4 q5 (k + 1)) (fun j hj => by
            unfold cvB
            by_cases e : j = k
            · subst e; simp [hk1]
            · rw [if_neg e]
              have : (1 ≤ j ∧ j < k + 1) ↔ (1 ≤ j ∧ j < k) := by omega
              simp only [this])] at hCs
          exact hCs
        case measure => simp [intOf]; omega
      · have hk : k = 7 := by omega
        subst hk
        obtain ⟨c1, c2, c3, c4, c5, c6, hrow, hcases⟩ := cv_cases p0 p1 p2 p3 p4 p5 q0 q1 q2 q3 q4 q5
        rw [hrow] at C
        have cC := C.cell
        clear hrow
        rcases hcases with ⟨rfl, rfl, rfl, rfl, rfl, rfl, rfl, rfl, rfl, rfl, rfl, rfl⟩ | ⟨rfl, hpq, hcases⟩
        · go_wp2_with fail
          go_rounds 6
          refine wp_region_x (by kernel_rfl) (by kernel_rfl) (by kernel_rfl) (by kernel_rfl) (fun k => k = b5 ∨ k = b6 ∨ k = Z + 1) ?_
          intro w0 hw0 hs0
          replace P := P.drew
          replace Q := Q.drew
          replace C := C.drew
          replace hB := hB.drew
          rw [← hw0] at P Q C hB
          have hN0 := Lib.hid (HN.out.below hB)
          clear hw0 S Zb hNr
          refine wpX_eff rfl rfl (fun _ _ => ?_)
          go_step
          refine (awake09 _ hN0.out).mono ?_
          rintro _ w1 ⟨rfl, hb1⟩
          dsimp only
          go_step
          have hs1 : Same (fun k => k = b5 ∨ k = b6 ∨ k = Z + 1) w0 w1 := hs0.chg (b := w0.heap.size) (Chg.of_below hb1) (fun k hk => by rcases hk with rfl | rfl | rfl <;> constructor <;> first | exact P.lt | exact Q.lt | exact C.lt | exact Nat.ne_of_lt P.lt | exact Nat.ne_of_lt Q.lt | exact Nat.ne_of_lt C.lt)
          refine ⟨hs1, ?_⟩
          replace P := P.below hb1
          replace Q := Q.below hb1
          replace C := C.below hb1
          replace hB := hB.trans (hb1.mono hB.size)
          replace cC := C.cell
          have cP := P.cell
          have cQ := Q.cell
          clear hb1 hs0 hN0
          iterate 5 (first
            | (refine wpX_free rfl rfl rfl (fun K hK => ?_); go_step; refine hK _ _ ?_; clear hK K)
            | (refine wpX_load rfl rfl rfl (by simp) hs1 (by simp [*]) (fun K hK => ?_); go_step; refine hK _ _ ?_; clear hK K))
          refine wpX_yield rfl rfl (.bool true) (fun w _ => by simp [execOp, go_sem]) ?_
          go_simp
          repeat (first
            | (refine wpX_skip rfl ?_; go_simp)
            | (refine wpX_free rfl rfl rfl (fun K hK => ?_); go_step; refine hK _ _ ?_; clear hK K)
            | (refine wpX_load rfl rfl rfl (by simp) hs1 (by simp [*]) (fun K hK => ?_); go_step; refine hK _ _ ?_; clear hK K))
          refine wpX_nil ?_
          go_step
          go_wp2_with fail
          go_ret
          exact ⟨rfl, hB⟩
        · rcases hcases with ⟨rfl, rfl, rfl, rfl, rfl⟩ | ⟨rfl, rfl, rfl, rfl, rfl⟩ | ⟨rfl, rfl, rfl, rfl, rfl⟩ | ⟨rfl, rfl, rfl, rfl, rfl⟩ | ⟨rfl, rfl, rfl, rfl, rfl⟩ | ⟨rfl, rfl, rfl, rfl, rfl⟩
          all_goals
            go_wp2_with fail
            go_rounds 6
            refine wp_region_x (by kernel_rfl) (by kernel_rfl) (by kernel_rfl) (by kernel_rfl) (fun k => k = b5 ∨ k = b6 ∨ k = Z + 1) ?_
            intro w0 hw0 hs0
            replace P := P.drew
            replace Q := Q.drew
            replace C := C.drew
            replace hB := hB.drew
            rw [← hw0] at P Q C hB
            have hN0 := Lib.hid (HN.out.below hB)
            clear hw0 S Zb hNr
            refine wpX_eff rfl rfl (fun _ _ => ?_)
            go_step
            refine (awake09 _ hN0.out).mono ?_
            rintro _ w1 ⟨rfl, hb1⟩
            dsimp only
            go_step
            have hs1 : Same (fun k => k = b5 ∨ k = b6 ∨ k = Z + 1) w0 w1 := hs0.chg (b := w0.heap.size) (Chg.of_below hb1) (fun k hk => by rcases hk with rfl | rfl | rfl <;> constructor <;> first | exact P.lt | exact Q.lt | exact C.lt | exact Nat.ne_of_lt P.lt | exact Nat.ne_of_lt Q.lt | exact Nat.ne_of_lt C.lt)
            refine ⟨hs1, ?_⟩
            replace P := P.below hb1
            replace Q := Q.below hb1
            replace C := C.below hb1
            replace hB := hB.trans (hb1.mono hB.size)
            replace cC := C.cell
            have cP := P.cell
            have cQ := Q.cell
            clear hb1 hs0 hN0
            iterate 5 (first
              | (refine wpX_free rfl rfl rfl (fun K hK => ?_); go_step; refine hK _ _ ?_; clear hK K)
              | (refine wpX_load rfl rfl rfl (by simp) hs1 (by simp [*]) (fun K hK => ?_); go_step; refine hK _ _ ?_; clear hK K))
            refine wpX_yield rfl rfl (.bool false) (fun w _ => by simp [execOp, go_sem]; try simp_all) ?_
            go_simp
            repeat (first
              | (refine wpX_skip rfl ?_; go_simp)
              | (refine wpX_free rfl rfl rfl (fun K hK => ?_); go_step; refine hK _ _ ?_; clear hK K)
              | (refine wpX_load rfl rfl rfl (by simp) hs1 (by simp [*]) (fun K hK => ?_); go_step; refine hK _ _ ?_; clear hK K))
            refine wpX_nil ?_
            go_step
            go_wp2_with fail
            go_ret
            exact ⟨rfl, hB⟩
  · have hli : ∀ w, Calls Tryd.prog 11 #[.slice sa len cap] w fun e w' => e = .returned (.bool false) ∧ w = w' := fun w => by
      have := light_any sa len cap hl w
      rwa [decide_eq_false h400] at this
    have HLI := Lib.hid hli
    have HN := Lib.hid hN
    clear hli hI hl hN
    go_enter Tryd.func4, Tryd.ntmps4
    go_wp2_with (go_at_call 11; refine (HLI.out _).mono ?_; rintro _ w1 ⟨rfl, rfl⟩)
    refine (awake09 _ HN.out).mono ?_
    rintro _ w1 ⟨rfl, hb1⟩
    go_wp2_with fail
    go_ret
    exact ⟨rfl, hb1⟩
end Go.Proofs.YtaeockopliplfaaDoor
