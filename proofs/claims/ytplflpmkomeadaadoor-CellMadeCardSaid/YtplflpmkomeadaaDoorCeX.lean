/- slices.Insert at words, slices.Delete of one word or fault. -/
import Derived.Test.YtplflpmkomeadaaDoorCeA
import Derived.Test.YtplflpmkomeadaaDoorK4
import Derived.Shelf.Spec.SlicesInsert
import Derived.Lib.AppendZerosOnto
import Derived.Lib.SliceRun
import Derived.Deep.RegionLaw
namespace Go.Proofs.YtplflpmkomeadaaDoor
set_option linter.unusedSimpArgs false
set_option linter.unusedVariables false
open Go.RowKit
set_option maxRecDepth 100000
attribute [local go_sem] lt_more ne_more ne_more'
attribute [local irreducible] wpX wpF Calls

set_option maxHeartbeats 2000000 in
theorem insert_endCw {sa : Option Addr} {n c b : Nat} {cs : List Value} {X : List Value} (hX : X.length = 3) (hX1 : ∀ u ∈ X, u.oneCell' = true) (hn : n ≤ 1000) (w : World) (hr : w.ownsRow 0 50 3 (.slice sa n c) n cs) (hb : Blk w b X.toArray 50) :
    Calls Tryd.prog 84 #[.slice sa n c, .int .i64 n, .slice (some ⟨b, 0, none⟩) 1 1] w (GrewPost (.slice sa n c) 50 3 (n + 1) (cs ++ X) w) := by
  obtain ⟨i, i1, i2, i3, i4⟩ := elemCw.hi
  have HB := Lib.hid hb
  have HR := Lib.hid hr
  clear hb hr
  go_enter Tryd.func84, Tryd.ntmps84
  have H := HS.start NoD w
  go_upto_region 7 with fail
  all_goals go_wp2_with (at_builtin; refine wpList_append_lies _ rfl (.tmp 23) (.tmp 24) 31 rfl 0 50 i _ 3 40 elemCw.ht i1 i2 i3 i4 elemCw.hzs elemCw.pos _ n cs rfl HR.out ⟨b, 0, none⟩ 1 1 X rfl (hX.trans (by decide)) (World.news_of_block HB.out) (fun u hu => hX1 u hu) (by decide) (by unfold maxLen; omega) (by omega) (Nat.zero_le _) w.heap.size rfl (fun g cap wz h2 h3 h4 h5 => ?_))
  all_goals go_ret
  all_goals exact ⟨g, cap, rfl, h2, (by cases sa <;> exact h3), (by cases sa <;> exact h4)⟩
theorem overlaps_noCw {b g : Nat} {cs cur : Array Value} (hb : b ≠ g) (w : World) (h1 : Blk w b cs 50) (h2 : Blk w g cur 50) (hc : cur.size ≠ 0) (o la ca lb cb : Nat) :
    (callFunc 100 #[.slice (some ⟨b, 0, none⟩) la ca, .slice (some ⟨g, o, none⟩) lb cb]).run Tryd.prog w = .ok (.value (.bool false)) w := by
  rw [run_callFunc_extern Tryd.func100 (by kernel_rfl) (by kernel_rfl) (by kernel_rfl) (e := Extern.SlicesOverlaps.overlaps #[31, 31] #[4]) (by kernel_rfl),
    Lib.run_overlaps_apart w 31 4 50 Tryd.underlying31 3 (fun w => rfl) ⟨b, 0, none⟩ ⟨g, o, none⟩ la ca lb cb hb 50 50 cs.size cur.size (by unfold World.shape?; rw [show w.heap[b]? = _ from h1]) (by unfold World.shape?; rw [show w.heap[g]? = _ from h2]) hc (h1.free 0) (h1.free _)]
  rfl
set_option maxHeartbeats 2000000 in
theorem insert_roomCw {g n c b i : Nat} {cs : List Value} {X : List Value} (hX : X.length = 3) (hX1 : ∀ u ∈ X, u.oneCell' = true) (hi : i < n) (hn : n ≤ 1000) (hroom : n + 1 ≤ c) (hne : b ≠ g) (h1c : ∀ u ∈ cs, u.oneCell' = true) (w : World) (hr : w.ownsRow 0 50 3 (.slice (some ⟨g, 0, none⟩) n c) n cs) (hb : Blk w b X.toArray 50) :
    Calls Tryd.prog 84 #[.slice (some ⟨g, 0, none⟩) n c, .int .i64 i, .slice (some ⟨b, 0, none⟩) 1 1] w (GrewPost (.slice (some ⟨g, 0, none⟩) n c) 50 3 (n + 1) (cs.take (i * 3) ++ X ++ cs.drop (i * 3)) w) := by
  obtain ⟨hcl, ⟨h2, h3⟩ | ⟨g', cap, cur, hv, -, hh, hnc, hcm, hcs, htk⟩⟩ := hr
  · omega
  · obtain ⟨he, -, rfl⟩ := Value.slice.inj hv
    obtain rfl : g = g' := by simpa using he
    clear hv he
    have hB : Blk w g cur 50 := hh
    have hov := fun o la ca lb cb => overlaps_noCw hne w hb hB (by omega) o la ca lb cb
    have hz2 : ¬ ((i : Int) = (n : Int)) := by omega
    have hz3 : ¬ ((c : Int) < (n : Int) + 1) := by omega
    have hb3 : (i : Int) ≤ (n : Int) := by omega
    have hw1 : IntKind.i64.wrap ((i : Int) + 1) = (i : Int) + 1 := by rw [IntKind.wrap_i64]; omega
    have hb1 : (0 : Int) ≤ (i : Int) + 1 := by omega
    have htn : ((i : Int) + 1).toNat = i + 1 := by omega
    have hb2 : ¬ (c = i + 1) := by omega
    have hb4 : ¬ (c = i) := by omega
    have hb5 : (i : Int) ≤ (n : Int) + 1 := by omega
    have hin : i ≤ n := by omega
    obtain ⟨inf, i1, i2, i3, i4⟩ := elemCw.hi
    have hclen : cs.length = n * 3 := hcl
    have hdl : (cs.drop (i * 3)).length = (n - i) * 3 := by rw [List.length_drop, hclen]; omega
    have hcell : ∀ j v, cs[j]? = some v → w.cell? ⟨g, j, none⟩ = some v := fun j v hj => by
      rw [hB.cell j]
      rw [← htk, List.getElem?_take] at hj
      split at hj
      · simpa using hj
      · cases hj
    have hcp1 : ∀ ty dc sc, (Builtin.copy_ #[31, 31] ty #[.slice (some ⟨g, (i + 1) * 3, none⟩) (n - i) dc, .slice (some ⟨g, i * 3, none⟩) (n + 1 - i) sc]).run Tryd.prog w.drew = .ok (goInt (Nat.min (n + 1 - i) (n - i))) (w.drew.setCells g ((i + 1) * 3) (cs.drop (i * 3))) := fun ty dc sc =>
      run_copy_sized w.drew _ _ ty 50 3 g ((i + 1) * 3) (n - i) dc ⟨g, i * 3, none⟩ (n + 1 - i) sc (cs.drop (i * 3)) Tryd.underlying31 i1 i3 (by rw [hdl, show Nat.min (n + 1 - i) (n - i) = n - i from Nat.min_eq_right (by omega)])
        (fun j v hj => by rw [Addr.add_lit]; rw [List.getElem?_drop] at hj; exact hcell _ v hj)
        (fun j hj => by rw [hdl] at hj; show (w.cell? _).isSome = true; rw [hB.cell, Array.getElem?_eq_getElem (by rw [hcs]; omega)]; rfl)
        (fun j hj => hB.free _) (fun v hv => h1c v (List.mem_of_mem_drop hv))
    obtain ⟨W1, hW1⟩ : ∃ W1, W1 = w.drew.setCells g ((i + 1) * 3) (cs.drop (i * 3)) := ⟨_, rfl⟩
    obtain ⟨cur1, hB1, hl1⟩ := Blk.setCells (cs.drop (i * 3)) ((i + 1) * 3) hB.drew (by rw [hdl, hcs]; omega)
    rw [← hW1] at hcp1 hB1
    have hbW : Blk W1 b X.toArray 50 := by
      rw [hW1]; exact ((below_cells _ _ _).2.2.2.2 b hne).trans hb
    have hs1 : cur1.size = c * 3 := by
      have := congrArg List.length hl1
      simp [hdl, hcs] at this
      omega
    have hcp2 : ∀ (W : World), (∀ x, W.cell? x = W1.cell? x) → (∀ x, W.frozen? x = W1.frozen? x) → ∀ ty dl dc, (Builtin.copy_ #[31, 31] ty #[.slice (some ⟨g, i * 3, none⟩) (n + 1 - i) dc, .slice (some ⟨b, 0, none⟩) 1 dl]).run Tryd.prog W = .ok (goInt (Nat.min 1 (n + 1 - i))) (W.setCells g (i * 3) X) := fun W hWc hWf ty dl dc =>
      run_copy_sized W _ _ ty 50 3 g (i * 3) (n + 1 - i) dc ⟨b, 0, none⟩ 1 dl X Tryd.underlying31 i1 i3 (by rw [show Nat.min 1 (n + 1 - i) = 1 from Nat.min_eq_left (by omega), hX, Nat.one_mul])
        (fun j v hj => by rw [Addr.add_lit, hWc, hbW.cell]; simpa using hj)
        (fun j hj => by have h9 := hj; rw [hX] at h9; rw [hWc, hB1.cell, Array.getElem?_eq_getElem (by rw [hs1]; omega)]; rfl)
        (fun j hj => by rw [hWf]; exact hB1.free _) (fun v hv => hX1 v hv)
    have HB := Lib.hid hb
    have HBB := Lib.hid hB
    have mixed : Tryd.prog.follows .mixedOrders = true := by kernel_rfl
    obtain ⟨zs, hzs⟩ : ∃ zs, zs = cs.take (i * 3) ++ X ++ cs.drop (i * 3) := ⟨_, rfl⟩
    rw [← hzs]
    have HZS := Lib.hid hzs
    have HL1 := Lib.hid hl1
    have HB1 := Lib.hid hB1
    have HW1 := Lib.hid hW1
    have HTK := Lib.hid htk
    clear hb hB hh hzs hl1 hB1 hW1 htk hbW hcell
    go_enter Tryd.func84, Tryd.ntmps84
    have H := HS.start NoD w
    go_upto_region 14 with fail
    go_wp2_with (simp only [hov])
    go_region_law_o (refine step_copy_runI rfl _ _ 31 31 rfl _ _ (by simp [Act.eval, Act.put]) (by simp [Act.eval, Act.put]) (hcp1 _ _ _) ?_)
    go_wp2_with (at_builtin; refine wpList_copy_runI _ rfl _ _ 31 31 rfl _ _ rfl rfl (hcp2 _ (fun _ => rfl) (fun _ => rfl) _ _ _) ?_)
    go_ret
    obtain ⟨cur2, hB2, hl2⟩ := Blk.setCells X (i * 3) HB1.out (by rw [hs1, hX]; omega)
    have hl1 := HL1.out
    have htk := HTK.out
    have hLl : cur.toList.length = c * 3 := by simpa using hcs
    have e1 : cur1.toList.take (i * 3) = cs.take (i * 3) := by
      rw [hl1, List.append_assoc, List.take_append_of_le_length (by rw [List.length_take]; omega), List.take_take, Nat.min_eq_left (by omega), ← htk, List.take_take, Nat.min_eq_left (by omega)]
    have e2 : cur1.toList.drop (i * 3 + X.length) = cs.drop (i * 3) ++ cur.toList.drop ((i + 1) * 3 + (cs.drop (i * 3)).length) := by
      rw [hl1, List.append_assoc]
      exact List.drop_left' (by rw [List.length_take, hX]; omega)
    have hz : zs.length = (n + 1) * 3 := by
      rw [HZS.out, List.length_append, List.length_append, hdl, List.length_take, hclen, hX]
      omega
    refine ⟨g, c, rfl, ⟨hz, .inr ⟨g, c, cur2, rfl, Nat.zero_le _, hB2, hroom, hcm, ?_, ?_⟩⟩, ?_, .inl rfl⟩
    · have h1 := congrArg List.length hl2
      rw [List.length_append, List.length_append, List.length_take, List.length_drop] at h1
      have h2 := hX
      simp only [Array.length_toList] at h1
      omega
    · rw [hl2, e1, e2, ← List.append_assoc, ← HZS.out]
      exact List.take_left' hz
    · obtain ⟨a1, a2, a3, a4, a5⟩ := below_cells (b := g) X (i * 3) W1
      obtain ⟨b1, b2, b3, b4, b5⟩ := below_cells (b := g) (cs.drop (i * 3)) ((i + 1) * 3) w.drew
      rw [← HW1.out] at b1 b2 b3 b4 b5
      exact ⟨a1.trans b1, a2.trans b2, a3.trans b3, by rw [a4, b4]; exact Nat.le_refl _, fun k hk hne => (a5 k (fun e => hne (by rw [e]; rfl))).trans (b5 k (fun e => hne (by rw [e]; rfl)))⟩
set_option maxHeartbeats 4000000 in
theorem insert_growCw {g n c b i : Nat} {cs : List Value} {X : List Value} (hX : X.length = 3) (hX1 : ∀ u ∈ X, u.oneCell' = true) (hi : i < n) (hn : n ≤ 1000) (hroom : c < n + 1) (h1c : ∀ u ∈ cs, u.oneCell' = true) (w : World) (hr : w.ownsRow 0 50 3 (.slice (some ⟨g, 0, none⟩) n c) n cs) (hb : Blk w b X.toArray 50) :
    Calls Tryd.prog 84 #[.slice (some ⟨g, 0, none⟩) n c, .int .i64 i, .slice (some ⟨b, 0, none⟩) 1 1] w (GrewPost (.slice (some ⟨g, 0, none⟩) n c) 50 3 (n + 1) (cs.take (i * 3) ++ X ++ cs.drop (i * 3)) w) := by
  obtain ⟨hcl, ⟨h2, h3⟩ | ⟨g', cap, cur, hv, -, hh, hnc, hcm, hcs, htk⟩⟩ := hr
  · omega
  · obtain ⟨he, -, rfl⟩ := Value.slice.inj hv
    obtain rfl : g = g' := by simpa using he
    clear hv he
    have hB : Blk w g cur 50 := hh
    have hgl := hB.lt
    have hbl := hb.lt
    have hz2 : ¬ ((i : Int) = (n : Int)) := by omega
    have hz3 : (c : Int) < (n : Int) + 1 := by omega
    have hb3 : (i : Int) ≤ (n : Int) := by omega
    have hw1 : IntKind.i64.wrap ((i : Int) + 1) = (i : Int) + 1 := by rw [IntKind.wrap_i64]; omega
    have hb1 : (0 : Int) ≤ (i : Int) + 1 := by omega
    have htn : ((i : Int) + 1).toNat = i + 1 := by omega
    have hb5 : (i : Int) ≤ (n : Int) + 1 := by omega
    have hin : i ≤ n := by omega
    have hci : ¬ (c = i) := by omega
    obtain ⟨inf, i1, i2, i3, i4⟩ := elemCw.hi
    have hclen : cs.length = n * 3 := hcl
    have hdl : (cs.drop (i * 3)).length = (n - i) * 3 := by rw [List.length_drop, hclen]; omega
    have htl : (cs.take (i * 3)).length = i * 3 := by rw [List.length_take, hclen]; omega
    have hcell : ∀ j v, cs[j]? = some v → w.cell? ⟨g, j, none⟩ = some v := fun j v hj => by
      rw [hB.cell j]
      rw [← htk, List.getElem?_take] at hj
      split at hj
      · simpa using hj
      · cases hj
    have hold : (Builtin.firstCells inf.size i (.slice (some ⟨g, 0, none⟩) i c)).run Tryd.prog w.drew = .ok (cs.take (i * 3)).toArray w.drew := by
      rw [i3]
      exact run_firstCells_some w.drew 3 i ⟨g, 0, none⟩ i c (cs.take (i * 3)) htl (fun j v hj => by
        rw [Addr.add_lit, Nat.zero_add]
        rw [List.getElem?_take] at hj
        split at hj
        · exact hcell j v hj
        · cases hj)
    obtain ⟨GC, hGC⟩ : ∃ GC, GC = grownCap w (n + 1) c 50 := ⟨_, rfl⟩
    have hGn : n + 1 ≤ GC := by rw [hGC]; exact grownCap_ge w _ _ _
    have hGm : GC ≤ maxLen := by rw [hGC]; exact grownCap_le_maxLen w (n + 1) c _ (by unfold maxLen; omega)
    obtain ⟨Z, hZ⟩ : ∃ Z : Array Value, Z = Builtin.zeroCells (Value.agg #[.int .i64 0, .slice none 0 0, .bool false]).cells (n + 1 - i) ++ Builtin.zeroCells (Value.agg #[.int .i64 0, .slice none 0 0, .bool false]).cells (GC - (n + 1)) := ⟨_, rfl⟩
    have hZs : Z.size = (GC - i) * 3 := by
      rw [hZ, Array.size_append, size_zeroCells, size_zeroCells]
      show (n + 1 - i) * 3 + (GC - (n + 1)) * 3 = _
      omega
    have hrz : ∀ ty, (Builtin.append_ #[31, 3] ty #[.slice (some ⟨g, 0, none⟩) i c, .int .i64 ((n : Int) + 1 - (i : Int))]).run Tryd.prog w = .ok (.slice (some ⟨w.heap.size, 0, none⟩) (n + 1) GC) (w.drew.alloc (.cells ((cs.take (i * 3)).toArray ++ Z) 50)) := fun ty => by
      have h := Lib.run_append_grow_zeros w 31 3 ty 50 inf _ .i64 .i64 Tryd.underlying31 (by kernel_rfl) i1 i2 (some ⟨g, 0, none⟩) i c (cs.take (i * 3)) hold (n + 1 - i) (by omega) (by rw [i3]; decide) (by omega) (by omega) (by rw [i4]; omega) (by rw [i4, show i + (n + 1 - i) = n + 1 by omega]; exact growslice_fits (by omega) (by omega))
      rw [show i + (n + 1 - i) = n + 1 by omega, ← hGC] at h
      rw [show (n : Int) + 1 - (i : Int) = ((n + 1 - i : Nat) : Int) by omega, hZ]
      rw [← Array.append_assoc]
      exact h
    obtain ⟨ROW, hROW⟩ : ∃ ROW, ROW = (cs.take (i * 3)).toArray ++ Z := ⟨_, rfl⟩
    have hRs : ROW.size = GC * 3 := by rw [hROW, Array.size_append, hZs, List.size_toArray, htl]; omega
    have hRl : ROW.toList = cs.take (i * 3) ++ Z.toList := by rw [hROW]; simp
    rw [← hROW] at hrz
    obtain ⟨W1, hW1⟩ : ∃ W1, W1 = w.drew.alloc (.cells ROW 50) := ⟨_, rfl⟩
    have hR1 : Blk W1 w.heap.size ROW 50 := by rw [hW1]; exact Blk.new w.drew ROW _
    have hbW : Blk W1 b X.toArray 50 := by rw [hW1]; exact hb.drew.alloc _
    have hgW : Blk W1 g cur 50 := by rw [hW1]; exact hB.drew.alloc _
    have hcpA : ∀ (W : World), (∀ x, W.cell? x = W1.cell? x) → (∀ x, W.frozen? x = W1.frozen? x) → ∀ ty dl dc, (Builtin.copy_ #[31, 31] ty #[.slice (some ⟨w.heap.size, i * 3, none⟩) (n + 1 - i) dc, .slice (some ⟨b, 0, none⟩) 1 dl]).run Tryd.prog W = .ok (goInt (Nat.min 1 (n + 1 - i))) (W.setCells w.heap.size (i * 3) X) := fun W hWc hWf ty dl dc =>
      run_copy_sized W _ _ ty 50 3 w.heap.size (i * 3) (n + 1 - i) dc ⟨b, 0, none⟩ 1 dl X Tryd.underlying31 i1 i3 (by rw [show Nat.min 1 (n + 1 - i) = 1 from Nat.min_eq_left (by omega), hX, Nat.one_mul])
        (fun j v hj => by rw [Addr.add_lit, hWc, hbW.cell]; simpa using hj)
        (fun j hj => by have h9 := hj; rw [hX] at h9; rw [hWc, hR1.cell, Array.getElem?_eq_getElem (by rw [hRs]; omega)]; rfl)
        (fun j hj => by rw [hWf]; exact hR1.free _) (fun v hv => hX1 v hv)
    obtain ⟨cur1, hR2, hl1⟩ := Blk.setCells X (i * 3) hR1 (by rw [hRs, hX]; omega)
    have hgW2 : Blk (W1.setCells w.heap.size (i * 3) X) g cur 50 := ((below_cells _ _ _).2.2.2.2 g (by omega)).trans hgW
    have hs1 : cur1.size = GC * 3 := by
      have := congrArg List.length hl1
      simp [hX, hRs] at this
      omega
    have hcpB : ∀ (W : World), (∀ y, W.cell? y = (W1.setCells w.heap.size (i * 3) X).cell? y) → (∀ y, W.frozen? y = (W1.setCells w.heap.size (i * 3) X).frozen? y) → ∀ ty dc sc, (Builtin.copy_ #[31, 31] ty #[.slice (some ⟨w.heap.size, (i + 1) * 3, none⟩) (n - i) dc, .slice (some ⟨g, i * 3, none⟩) (n - i) sc]).run Tryd.prog W = .ok (goInt (Nat.min (n - i) (n - i))) (W.setCells w.heap.size ((i + 1) * 3) (cs.drop (i * 3))) := fun W hWc hWf ty dc sc =>
      run_copy_sized W _ _ ty 50 3 w.heap.size ((i + 1) * 3) (n - i) dc ⟨g, i * 3, none⟩ (n - i) sc (cs.drop (i * 3)) Tryd.underlying31 i1 i3 (by rw [hdl, show Nat.min (n - i) (n - i) = n - i from Nat.min_self _])
        (fun j v hj => by
          rw [Addr.add_lit, hWc, hgW2.cell, ← hB.cell]
          rw [List.getElem?_drop] at hj
          exact hcell _ v hj)
        (fun j hj => by rw [hdl] at hj; rw [hWc, hR2.cell, Array.getElem?_eq_getElem (by rw [hs1]; omega)]; rfl)
        (fun j hj => by rw [hWf]; exact hR2.free _) (fun v hv => h1c v (List.mem_of_mem_drop hv))
    have mixed : Tryd.prog.follows .mixedOrders = true := by kernel_rfl
    have hGi : ¬ (GC = i) := by omega
    have hGi1 : ¬ (GC = i + 1) := by omega
    have hG63 : GC ≤ 9223372036854775807 := by unfold maxLen at hGm; omega
    obtain ⟨zs, hzs⟩ : ∃ zs, zs = cs.take (i * 3) ++ X ++ cs.drop (i * 3) := ⟨_, rfl⟩
    rw [← hzs]
    have HZS := Lib.hid hzs
    have HL1 := Lib.hid hl1
    have HR2 := Lib.hid hR2
    have HRL := Lib.hid hRl
    have HGC := Lib.hid hGC
    clear hb hB hh hzs hl1 hR1 hR2 htk hbW hgW hgW2 hcell hold hRl hGC hROW hZ hZs
    subst hW1
    have hE1 : ∀ y, ((w.alloc (.cells ROW 50)).drew).cell? y = (w.drew.alloc (.cells ROW 50)).cell? y := fun y => rfl
    have hE2 : ∀ y, ((w.alloc (.cells ROW 50)).drew).frozen? y = (w.drew.alloc (.cells ROW 50)).frozen? y := fun y => rfl
    have hF1 : ∀ y, (((w.alloc (.cells ROW 50)).drew.setCells w.heap.size (i * 3) X).drew).cell? y = ((w.drew.alloc (.cells ROW 50)).setCells w.heap.size (i * 3) X).cell? y := fun y => rfl
    have hF2 : ∀ y, (((w.alloc (.cells ROW 50)).drew.setCells w.heap.size (i * 3) X).drew).frozen? y = ((w.drew.alloc (.cells ROW 50)).setCells w.heap.size (i * 3) X).frozen? y := fun y => rfl
    go_enter Tryd.func84, Tryd.ntmps84
    have H := HS.start NoD w
    go_wp2_with (first
      | (at_builtin; refine Lib.wpList_append_run _ rfl _ _ _ _ rfl _ _ rfl rfl _ _ (hrz _) ?_)
      | (at_builtin; refine wpList_copy_runI _ rfl _ _ 31 31 rfl _ _ rfl rfl (hcpA _ hE1 hE2 _ _ _) ?_))
    go_region_law_o (refine step_copy_runI rfl _ _ 31 31 rfl (.slice (some ⟨w.heap.size, (i + 1) * 3, none⟩) (n - i) (GC - (i + 1))) (.slice (some ⟨g, i * 3, none⟩) (n - i) (c - i)) (by simp [Act.eval, Act.put]) (by simp [Act.eval, Act.put]) (hcpB _ hF1 hF2 3 (GC - (i + 1)) (c - i)) ?_)
    go_wp2_with fail
    go_ret
    obtain ⟨cur2, hB2, hl2⟩ := Blk.setCells (w := ((w.alloc (.cells ROW 50)).drew.setCells w.heap.size (i * 3) X).drew) (cs.drop (i * 3)) ((i + 1) * 3) (show Blk _ w.heap.size cur1 50 from HR2.out) (by rw [hdl, hs1]; omega)
    have hl1 := HL1.out
    have e0 : ROW.toList.take (i * 3) = cs.take (i * 3) := by rw [HRL.out]; exact List.take_left' htl
    have e1 : cur1.toList.take ((i + 1) * 3) = cs.take (i * 3) ++ X := by
      rw [hl1, e0]
      exact List.take_left' (by rw [List.length_append, htl, hX]; omega)
    have hz : zs.length = (n + 1) * 3 := by
      rw [HZS.out, List.length_append, List.length_append, hdl, htl, hX]
      omega
    have h2 := congrArg List.length hl2
    simp only [List.length_append, List.length_take, List.length_drop, Array.length_toList, hclen, hs1, hX] at h2
    refine ⟨w.heap.size, GC, rfl, ⟨hz, .inr ⟨w.heap.size, GC, cur2, rfl, Nat.zero_le _, hB2, hGn, hGm, by omega, ?_⟩⟩, ?_, .inr rfl⟩
    · rw [hl2, e1, ← HZS.out]
      exact List.take_left' hz
    · obtain ⟨a1, a2, a3, a4, a5⟩ := below_cells (b := w.heap.size) (cs.drop (i * 3)) ((i + 1) * 3) (((w.alloc (.cells ROW 50)).drew.setCells w.heap.size (i * 3) X).drew)
      obtain ⟨b1, b2, b3, b4, b5⟩ := below_cells (b := w.heap.size) X (i * 3) ((w.alloc (.cells ROW 50)).drew)
      refine ⟨a1.trans b1, a2.trans b2, a3.trans b3, ?_, fun k hk hne => ?_⟩
      · have : (w.alloc (.cells ROW 50)).drew.heap.size = w.heap.size + 1 := World.size_alloc _ _
        have h4 : ((w.alloc (.cells ROW 50)).drew.setCells w.heap.size (i * 3) X).drew.heap.size = w.heap.size + 1 := b4.trans this
        omega
      · exact ((a5 k (by omega)).trans (b5 k (by omega))).trans (Below.heap_alloc w _ k hk)
theorem insert_anyCw {sa : Option Addr} {n c b i : Nat} {cs : List Value} {X : List Value} (hX : X.length = 3) (hX1 : ∀ u ∈ X, u.oneCell' = true) (hi : i ≤ n) (hn : n ≤ 1000) (hne : ∀ g, sa = some ⟨g, 0, none⟩ → b ≠ g) (h1c : ∀ u ∈ cs, u.oneCell' = true) (w : World) (hr : w.ownsRow 0 50 3 (.slice sa n c) n cs) (hb : Blk w b X.toArray 50) :
    Calls Tryd.prog 84 #[.slice sa n c, .int .i64 i, .slice (some ⟨b, 0, none⟩) 1 1] w (GrewPost (.slice sa n c) 50 3 (n + 1) (cs.take (i * 3) ++ X ++ cs.drop (i * 3)) w) := by
  by_cases he : i = n
  · subst he
    have := insert_endCw hX hX1 hn w hr hb
    have hl : cs.length = i * 3 := hr.1
    rw [List.take_of_length_le (by omega), List.drop_eq_nil_of_le (by omega), List.append_nil]
    exact this
  · obtain ⟨g, cap, hv, -, -⟩ := World.ownsRow.form hr (by omega)
    obtain ⟨rfl, -, rfl⟩ := Value.slice.inj hv
    by_cases hroom : n + 1 ≤ c
    · exact insert_roomCw hX hX1 (by omega) hn hroom (hne g rfl) h1c w hr hb
    · exact insert_growCw hX hX1 (by omega) hn (by omega) h1c w hr hb
/-- 'clear' of one element of any size. -/
theorem run_clear_one {P : Program} (w : World) (t e ty : TypeId) (z : Value) (zs : List Value) (ht : P.underlying t = some (.slice e)) (hv : ∀ w, (zeroValue e).run P w = .ok z w) (hz : z.cells.toList = zs) (h1 : ∀ v ∈ zs, v.oneCell' = true) (b o c : Nat)
    (hc : ∀ j, j < zs.length → (w.cell? ⟨b, o + j, none⟩).isSome = true) (hf : ∀ j, j < zs.length → w.frozen? ⟨b, o + j, none⟩ = false) :
    (Builtin.clear_ #[t] ty #[.slice (some ⟨b, o, none⟩) 1 c]).run P w = .ok (.tuple #[]) (w.setCells b o zs) := by
  have hzc : (Builtin.zeroCells z.cells 1).toList = zs := by
    rw [← hz]
    simp [Builtin.zeroCells]
    apply List.ext_getElem
    · simp
    · intro i h1 h2
      have : i < z.cells.size := by simpa using h2
      simp [Nat.mod_eq_of_lt this]
      rw [getElem!_pos z.cells i this]
  have hst := run_storeCells_cells (P := P) b o zs 0 w (by simpa using hc) (by simpa using hf) h1
  simp only [Nat.add_zero] at hst
  simp [Builtin.clear_, run_underlying ht, hv, hzc, hst]
set_option maxHeartbeats 4000000 in
theorem delete1Cw {g n c i : Nat} {cs : List Value} (hi : i < n) (hn : n ≤ 1000) (h1c : ∀ u ∈ cs, u.oneCell' = true) (w : World) (hr : w.ownsRow 0 50 3 (.slice (some ⟨g, 0, none⟩) n c) n cs) :
    Calls Tryd.prog 83 #[.slice (some ⟨g, 0, none⟩) n c, .int .i64 i, .int .i64 ((i : Int) + 1)] w (GrewPost (.slice (some ⟨g, 0, none⟩) n c) 50 3 (n - 1) (cs.take (i * 3) ++ cs.drop ((i + 1) * 3)) w) := by
  obtain ⟨hcl, ⟨h2, h3⟩ | ⟨g', cap, cur, hv, -, hh, hnc, hcm, hcs, htk⟩⟩ := hr
  · omega
  · obtain ⟨he, -, rfl⟩ := Value.slice.inj hv
    obtain rfl : g = g' := by simpa using he
    clear hv he
    have hB : Blk w g cur 50 := hh
    obtain ⟨inf, i1, i2, i3, i4⟩ := elemCw.hi
    have hclen : cs.length = n * 3 := hcl
    obtain ⟨news, hnews⟩ : ∃ news, news = cs.drop ((i + 1) * 3) := ⟨_, rfl⟩
    have hdl : news.length = (n - (i + 1)) * 3 := by rw [hnews, List.length_drop, hclen]; omega
    have hcell : ∀ j v, cs[j]? = some v → w.cell? ⟨g, j, none⟩ = some v := fun j v hj => by
      rw [hB.cell j]
      rw [← htk, List.getElem?_take] at hj
      split at hj
      · simpa using hj
      · cases hj
    obtain ⟨A, hA, hsrc⟩ : ∃ A : Addr, (if c = i + 1 then (some ⟨g, 0, none⟩ : Option Addr) else some ⟨g, (i + 1) * 3, none⟩) = some A ∧ Hid (∀ t u, news[t]? = some u → w.drew.cell? (A.add t) = some u) := by
      by_cases h : c = i + 1
      · refine ⟨⟨g, 0, none⟩, by rw [if_pos h], fun t u hu => ?_⟩
        have h0 : news.length = 0 := by rw [hdl]; omega
        rw [List.length_eq_zero_iff.1 h0] at hu
        simp at hu
      · refine ⟨⟨g, (i + 1) * 3, none⟩, by rw [if_neg h], fun t u hu => ?_⟩
        rw [hnews, List.getElem?_drop] at hu
        rw [Addr.add_lit]
        exact hcell _ u hu
    have s2 : Hid (∀ u ∈ news, u.oneCell' = true) := fun u hu => h1c u (by rw [hnews] at hu; exact List.mem_of_mem_drop hu)
    have s3 : Hid (∀ t, t < news.length → (w.drew.cell? ⟨g, 0 + i * 3 + t, none⟩).isSome = true ∧ w.drew.frozen? ⟨g, 0 + i * 3 + t, none⟩ = false) := fun t ht => by
      rw [hdl] at ht
      exact ⟨by show (w.cell? _).isSome = true; rw [hB.cell, Array.getElem?_eq_getElem (by rw [hcs]; omega)]; rfl, hB.free _⟩
    obtain ⟨W1, hW1⟩ : ∃ W1, W1 = w.drew.setCells g (0 + i * 3) news := ⟨_, rfl⟩
    obtain ⟨cur1, hB1, hl1⟩ := Blk.setCells news (0 + i * 3) hB.drew (by rw [hdl, hcs]; omega)
    rw [← hW1] at hB1
    have hs1 : cur1.size = c * 3 := by
      have := congrArg List.length hl1
      simp [hdl, hcs] at this
      omega
    have hcl2 : ∀ ty d, (Builtin.clear_ #[31] ty #[.slice (some ⟨g, (n - 1) * 3, none⟩) 1 d]).run Tryd.prog W1 = .ok (.tuple #[]) (W1.setCells g ((n - 1) * 3) [.int .i64 0, .slice none 0 0, .bool false]) := fun ty d =>
      run_clear_one W1 _ 50 ty (.agg #[.int .i64 0, .slice none 0 0, .bool false]) [.int .i64 0, .slice none 0 0, .bool false] Tryd.underlying31 (fun w => by kernel_rfl) rfl (fun v hv => by simp only [List.mem_cons, List.mem_nil_iff, or_false] at hv; rcases hv with rfl | rfl | rfl <;> rfl) g ((n - 1) * 3) d
        (fun j hj => by have : j < 3 := hj; rw [hB1.cell, Array.getElem?_eq_getElem (by rw [hs1]; omega)]; rfl) (fun j hj => hB1.free _)
    have hdl2 : Hid (news.length = (n - (i + 1)) * 3) := hdl
    have HW := Lib.hid hW1
    have HB1 := Lib.hid hB1
    have HL1 := Lib.hid hl1
    have HTK := Lib.hid htk
    have HNW := Lib.hid hnews
    have HS1 := Lib.hid hs1
    have HCS := Lib.hid hcs
    have HCL := Lib.hid hclen
    have hij : ¬ ((i : Int) = (i : Int) + 1) := by omega
    have hb0 : (i : Int) ≤ (i : Int) + 1 := by omega
    have hb1 : (i : Int) + 1 ≤ (n : Int) := by omega
    have hb2 : (0 : Int) ≤ (i : Int) + 1 := by omega
    have hb3 : (i : Int) ≤ (c : Int) := by omega
    have hb4 : (i : Int) + 1 ≤ (c : Int) := by omega
    have hb5 : (n : Int) ≤ (c : Int) := by omega
    have htn : ((i : Int) + 1).toNat = i + 1 := by omega
    have hin : i ≤ n := by omega
    have hic : i ≤ c := by omega
    have hjc : i + 1 ≤ c := by omega
    have hnm : i + (n - (i + 1)) = n - 1 := by omega
    have hn1 : n - (n - 1) = 1 := by omega
    have hz1 : ((n - 1 : Nat) : Int) ≤ (n : Int) := by omega
    have mixed : Tryd.prog.follows .mixedOrders = true := by kernel_rfl
    clear hnews hdl hcell hW1 hB1 hl1 hs1 hB hh htk hcs hcl hclen
    go_enter Tryd.func83, Tryd.ntmps83
    have H := HS.start NoD w
    go_wp2_with fail
    go_region_law_o (refine step_append_room rfl (.tmp 22) (.tmp 25) 31 rfl 50 inf 3 Tryd.underlying31 i1 i3 g 0 i c (by simp [Act.eval, Act.put]) A (n - (i + 1)) (c - (i + 1)) news (by simp [Act.eval, Act.put]) hdl2.out hsrc.out s2.out (by omega) s3.out ?_; rw [← HW.out, hnm])
    go_wp2
    go_ret
    obtain ⟨cur2, hB2, hl2⟩ := Blk.setCells [.int .i64 0, .slice none 0 0, .bool false] ((n - 1) * 3) HB1.out (by rw [HS1.out]; show (n - 1) * 3 + 3 ≤ c * 3; omega)
    have hl1 := HL1.out
    have htk := HTK.out
    have hcs := HCS.out
    have hcl := HCL.out
    have hdl := hdl2.out
    have hLl : cur.toList.length = c * 3 := by simpa using hcs
    have hz : (cs.take (i * 3) ++ cs.drop ((i + 1) * 3)).length = (n - 1) * 3 := by rw [List.length_append, List.length_take, List.length_drop, hcl]; omega
    have e1 : cur1.toList.take ((n - 1) * 3) = cs.take (i * 3) ++ cs.drop ((i + 1) * 3) := by
      rw [hl1, Nat.zero_add, ← HNW.out]
      have e0 : cur.toList.take (i * 3) = cs.take (i * 3) := by rw [← htk, List.take_take, Nat.min_eq_left (by omega)]
      rw [e0]
      refine List.take_left' ?_
      rw [List.length_append, List.length_take, hcl, hdl]
      omega
    have hl3 : cur2.size = c * 3 := by
      have := congrArg List.length hl2
      simp [HS1.out] at this
      omega
    refine ⟨g, c, rfl, ⟨hz, .inr ⟨g, c, cur2, rfl, Nat.zero_le _, hB2, by omega, hcm, hl3, ?_⟩⟩, ?_, .inl rfl⟩
    · rw [hl2, e1, List.append_assoc]
      exact List.take_left' hz
    · obtain ⟨a1, a2, a3, a4, a5⟩ := below_cells (b := g) [.int .i64 0, .slice none 0 0, .bool false] ((n - 1) * 3) W1
      obtain ⟨b1, b2, b3, b4, b5⟩ := below_cells (b := g) news (0 + i * 3) w.drew
      rw [← HW.out] at b1 b2 b3 b4 b5
      exact ⟨a1.trans b1, a2.trans b2, a3.trans b3, by rw [a4, b4]; exact Nat.le_refl _, fun k hk hne => (a5 k (fun e => hne (by rw [e]; rfl))).trans (b5 k (fun e => hne (by rw [e]; rfl)))⟩
set_option maxHeartbeats 4000000 in
theorem delete1Cf {g n c i : Nat} {cs : List Value} (hi : i < n) (hn : n ≤ 1000) (h1c : ∀ u ∈ cs, u.oneCell' = true) (w : World) (hr : w.ownsRow 0 38 11 (.slice (some ⟨g, 0, none⟩) n c) n cs) :
    Calls Tryd.prog 60 #[.slice (some ⟨g, 0, none⟩) n c, .int .i64 i, .int .i64 ((i : Int) + 1)] w (GrewPost (.slice (some ⟨g, 0, none⟩) n c) 38 11 (n - 1) (cs.take (i * 11) ++ cs.drop ((i + 1) * 11)) w) := by
  obtain ⟨hcl, ⟨h2, h3⟩ | ⟨g', cap, cur, hv, -, hh, hnc, hcm, hcs, htk⟩⟩ := hr
  · omega
  · obtain ⟨he, -, rfl⟩ := Value.slice.inj hv
    obtain rfl : g = g' := by simpa using he
    clear hv he
    have hB : Blk w g cur 38 := hh
    obtain ⟨inf, i1, i2, i3, i4⟩ := elemCf.hi
    have hclen : cs.length = n * 11 := hcl
    obtain ⟨news, hnews⟩ : ∃ news, news = cs.drop ((i + 1) * 11) := ⟨_, rfl⟩
    have hdl : news.length = (n - (i + 1)) * 11 := by rw [hnews, List.length_drop, hclen]; omega
    have hcell : ∀ j v, cs[j]? = some v → w.cell? ⟨g, j, none⟩ = some v := fun j v hj => by
      rw [hB.cell j]
      rw [← htk, List.getElem?_take] at hj
      split at hj
      · simpa using hj
      · cases hj
    obtain ⟨A, hA, hsrc⟩ : ∃ A : Addr, (if c = i + 1 then (some ⟨g, 0, none⟩ : Option Addr) else some ⟨g, (i + 1) * 11, none⟩) = some A ∧ Hid (∀ t u, news[t]? = some u → w.drew.cell? (A.add t) = some u) := by
      by_cases h : c = i + 1
      · refine ⟨⟨g, 0, none⟩, by rw [if_pos h], fun t u hu => ?_⟩
        have h0 : news.length = 0 := by rw [hdl]; omega
        rw [List.length_eq_zero_iff.1 h0] at hu
        simp at hu
      · refine ⟨⟨g, (i + 1) * 11, none⟩, by rw [if_neg h], fun t u hu => ?_⟩
        rw [hnews, List.getElem?_drop] at hu
        rw [Addr.add_lit]
        exact hcell _ u hu
    have s2 : Hid (∀ u ∈ news, u.oneCell' = true) := fun u hu => h1c u (by rw [hnews] at hu; exact List.mem_of_mem_drop hu)
    have s3 : Hid (∀ t, t < news.length → (w.drew.cell? ⟨g, 0 + i * 11 + t, none⟩).isSome = true ∧ w.drew.frozen? ⟨g, 0 + i * 11 + t, none⟩ = false) := fun t ht => by
      rw [hdl] at ht
      exact ⟨by show (w.cell? _).isSome = true; rw [hB.cell, Array.getElem?_eq_getElem (by rw [hcs]; omega)]; rfl, hB.free _⟩
    obtain ⟨W1, hW1⟩ : ∃ W1, W1 = w.drew.setCells g (0 + i * 11) news := ⟨_, rfl⟩
    obtain ⟨cur1, hB1, hl1⟩ := Blk.setCells news (0 + i * 11) hB.drew (by rw [hdl, hcs]; omega)
    rw [← hW1] at hB1
    have hs1 : cur1.size = c * 11 := by
      have := congrArg List.length hl1
      simp [hdl, hcs] at this
      omega
    have hcl2 : ∀ ty d, (Builtin.clear_ #[32] ty #[.slice (some ⟨g, (n - 1) * 11, none⟩) 1 d]).run Tryd.prog W1 = .ok (.tuple #[]) (W1.setCells g ((n - 1) * 11) [.int .i64 0, .int .i64 0, .int .i64 0, .int .i64 0, .int .i64 0, .int .i64 0, .int .i64 0, .int .i64 0, .int .u8 0, .int .u8 0, .bool false]) := fun ty d =>
      run_clear_one W1 _ 38 ty (.agg #[.int .i64 0, .int .i64 0, .int .i64 0, .int .i64 0, .int .i64 0, .int .i64 0, .int .i64 0, .int .i64 0, .int .u8 0, .int .u8 0, .bool false]) [.int .i64 0, .int .i64 0, .int .i64 0, .int .i64 0, .int .i64 0, .int .i64 0, .int .i64 0, .int .i64 0, .int .u8 0, .int .u8 0, .bool false] Tryd.underlying32 (fun w => by kernel_rfl) rfl (fun v hv => by simp only [List.mem_cons, List.mem_nil_iff, or_false] at hv; rcases hv with rfl | rfl | rfl | rfl | rfl | rfl | rfl | rfl | rfl | rfl | rfl <;> rfl) g ((n - 1) * 11) d
        (fun j hj => by have : j < 11 := hj; rw [hB1.cell, Array.getElem?_eq_getElem (by rw [hs1]; omega)]; rfl) (fun j hj => hB1.free _)
    have hdl2 : Hid (news.length = (n - (i + 1)) * 11) := hdl
    have HW := Lib.hid hW1
    have HB1 := Lib.hid hB1
    have HL1 := Lib.hid hl1
    have HTK := Lib.hid htk
    have HNW := Lib.hid hnews
    have HS1 := Lib.hid hs1
    have HCS := Lib.hid hcs
    have HCL := Lib.hid hclen
    have hij : ¬ ((i : Int) = (i : Int) + 1) := by omega
    have hb0 : (i : Int) ≤ (i : Int) + 1 := by omega
    have hb1 : (i : Int) + 1 ≤ (n : Int) := by omega
    have hb2 : (0 : Int) ≤ (i : Int) + 1 := by omega
    have hb3 : (i : Int) ≤ (c : Int) := by omega
    have hb4 : (i : Int) + 1 ≤ (c : Int) := by omega
    have hb5 : (n : Int) ≤ (c : Int) := by omega
    have htn : ((i : Int) + 1).toNat = i + 1 := by omega
    have hin : i ≤ n := by omega
    have hic : i ≤ c := by omega
    have hjc : i + 1 ≤ c := by omega
    have hnm : i + (n - (i + 1)) = n - 1 := by omega
    have hn1 : n - (n - 1) = 1 := by omega
    have hz1 : ((n - 1 : Nat) : Int) ≤ (n : Int) := by omega
    have mixed : Tryd.prog.follows .mixedOrders = true := by kernel_rfl
    clear hnews hdl hcell hW1 hB1 hl1 hs1 hB hh htk hcs hcl hclen
    go_enter Tryd.func60, Tryd.ntmps60
    have H := HS.start NoD w
    go_wp2_with fail
    go_region_law_o (refine step_append_room rfl (.tmp 22) (.tmp 25) 32 rfl 38 inf 11 Tryd.underlying32 i1 i3 g 0 i c (by simp [Act.eval, Act.put]) A (n - (i + 1)) (c - (i + 1)) news (by simp [Act.eval, Act.put]) hdl2.out hsrc.out s2.out (by omega) s3.out ?_; rw [← HW.out, hnm])
    go_wp2
    go_ret
    obtain ⟨cur2, hB2, hl2⟩ := Blk.setCells [.int .i64 0, .int .i64 0, .int .i64 0, .int .i64 0, .int .i64 0, .int .i64 0, .int .i64 0, .int .i64 0, .int .u8 0, .int .u8 0, .bool false] ((n - 1) * 11) HB1.out (by rw [HS1.out]; show (n - 1) * 11 + 11 ≤ c * 11; omega)
    have hl1 := HL1.out
    have htk := HTK.out
    have hcs := HCS.out
    have hcl := HCL.out
    have hdl := hdl2.out
    have hLl : cur.toList.length = c * 11 := by simpa using hcs
    have hz : (cs.take (i * 11) ++ cs.drop ((i + 1) * 11)).length = (n - 1) * 11 := by rw [List.length_append, List.length_take, List.length_drop, hcl]; omega
    have e1 : cur1.toList.take ((n - 1) * 11) = cs.take (i * 11) ++ cs.drop ((i + 1) * 11) := by
      rw [hl1, Nat.zero_add, ← HNW.out]
      have e0 : cur.toList.take (i * 11) = cs.take (i * 11) := by rw [← htk, List.take_take, Nat.min_eq_left (by omega)]
      rw [e0]
      refine List.take_left' ?_
      rw [List.length_append, List.length_take, hcl, hdl]
      omega
    have hl3 : cur2.size = c * 11 := by
      have := congrArg List.length hl2
      simp [HS1.out] at this
      omega
    refine ⟨g, c, rfl, ⟨hz, .inr ⟨g, c, cur2, rfl, Nat.zero_le _, hB2, by omega, hcm, hl3, ?_⟩⟩, ?_, .inl rfl⟩
    · rw [hl2, e1, List.append_assoc]
      exact List.take_left' hz
    · obtain ⟨a1, a2, a3, a4, a5⟩ := below_cells (b := g) [.int .i64 0, .int .i64 0, .int .i64 0, .int .i64 0, .int .i64 0, .int .i64 0, .int .i64 0, .int .i64 0, .int .u8 0, .int .u8 0, .bool false] ((n - 1) * 11) W1
      obtain ⟨b1, b2, b3, b4, b5⟩ := below_cells (b := g) news (0 + i * 11) w.drew
      rw [← HW.out] at b1 b2 b3 b4 b5
      exact ⟨a1.trans b1, a2.trans b2, a3.trans b3, by rw [a4, b4]; exact Nat.le_refl _, fun k hk hne => (a5 k (fun e => hne (by rw [e]; rfl))).trans (b5 k (fun e => hne (by rw [e]; rfl)))⟩
end Go.Proofs.YtplflpmkomeadaaDoor
