/- slices.Insert at api.Blob. -/
import Derived.Test.YtheccfiidollpaaInsG
import Derived.Test.YtheccfiidollpaaRlA
import Derived.Shelf.Spec.SlicesInsert
import Derived.Lib.AppendZerosOnto
namespace Go.Proofs.Ytheccfiidollpaa
set_option linter.unusedSimpArgs false
set_option linter.unusedVariables false
open Go.RowKit
set_option maxRecDepth 100000
attribute [local go_sem] lt_more ne_more ne_more'
attribute [local irreducible] wpX wpF Calls

set_option maxHeartbeats 2000000 in
theorem insert_endBb {sa : Option Addr} {n c b : Nat} {cs : List Value} {X : List Value} (hX : X.length = 2) (hX1 : ∀ u ∈ X, u.oneCell' = true) (hn : n ≤ 1000) (w : World) (hr : w.ownsRow 0 32 2 (.slice sa n c) n cs) (hb : Blk w b X.toArray 32) :
    Calls Try.prog 27 #[.slice sa n c, .int .i64 n, .slice (some ⟨b, 0, none⟩) 1 1] w (GrewPost (.slice sa n c) 32 2 (n + 1) (cs ++ X) w) := by
  obtain ⟨i, i1, i2, i3, i4⟩ := elemBb.hi
  have HB := Lib.hid hb
  have HR := Lib.hid hr
  clear hb hr
  go_enter Try.func27, Try.ntmps27
  have H := HS.start NoD w
  go_upto_region 7 with fail
  all_goals go_wp2_with (at_builtin; refine wpList_append_lies _ rfl (.tmp 23) (.tmp 24) 27 rfl 0 32 i _ 2 32 elemBb.ht i1 i2 i3 i4 elemBb.hzs elemBb.pos _ n cs rfl HR.out ⟨b, 0, none⟩ 1 1 X rfl (hX.trans (by decide)) (World.news_of_block HB.out) (fun u hu => hX1 u hu) (by decide) (by unfold maxLen; omega) (by omega) (Nat.zero_le _) w.heap.size rfl (fun g cap wz h2 h3 h4 h5 => ?_))
  all_goals go_ret
  all_goals exact ⟨g, cap, rfl, h2, (by cases sa <;> exact h3), (by cases sa <;> exact h4)⟩
theorem overlaps_noBb {b g : Nat} {cs cur : Array Value} (hb : b ≠ g) (w : World) (h1 : Blk w b cs 32) (h2 : Blk w g cur 32) (hc : cur.size ≠ 0) (o la ca lb cb : Nat) :
    (callFunc 38 #[.slice (some ⟨b, 0, none⟩) la ca, .slice (some ⟨g, o, none⟩) lb cb]).run Try.prog w = .ok (.value (.bool false)) w := by
  rw [run_callFunc_extern Try.func38 (by kernel_rfl) (by kernel_rfl) (by kernel_rfl) (e := Extern.SlicesOverlaps.overlaps #[27, 27] #[4]) (by kernel_rfl),
    Lib.run_overlaps_apart w 27 4 32 Try.underlying27 2 (fun w => rfl) ⟨b, 0, none⟩ ⟨g, o, none⟩ la ca lb cb hb 32 32 cs.size cur.size (by unfold World.shape?; rw [show w.heap[b]? = _ from h1]) (by unfold World.shape?; rw [show w.heap[g]? = _ from h2]) hc (h1.free 0) (h1.free _)]
  rfl
set_option maxHeartbeats 2000000 in
theorem insert_roomBb {g n c b i : Nat} {cs : List Value} {X : List Value} (hX : X.length = 2) (hX1 : ∀ u ∈ X, u.oneCell' = true) (hi : i < n) (hn : n ≤ 1000) (hroom : n + 1 ≤ c) (hne : b ≠ g) (h1c : ∀ u ∈ cs, u.oneCell' = true) (w : World) (hr : w.ownsRow 0 32 2 (.slice (some ⟨g, 0, none⟩) n c) n cs) (hb : Blk w b X.toArray 32) :
    Calls Try.prog 27 #[.slice (some ⟨g, 0, none⟩) n c, .int .i64 i, .slice (some ⟨b, 0, none⟩) 1 1] w (GrewPost (.slice (some ⟨g, 0, none⟩) n c) 32 2 (n + 1) (cs.take (i * 2) ++ X ++ cs.drop (i * 2)) w) := by
  obtain ⟨hcl, ⟨h2, h3⟩ | ⟨g', cap, cur, hv, -, hh, hnc, hcm, hcs, htk⟩⟩ := hr
  · omega
  · obtain ⟨he, -, rfl⟩ := Value.slice.inj hv
    obtain rfl : g = g' := by simpa using he
    clear hv he
    have hB : Blk w g cur 32 := hh
    have hov := fun o la ca lb cb => overlaps_noBb hne w hb hB (by omega) o la ca lb cb
    have hz2 : ¬ ((i : Int) = (n : Int)) := by omega
    have hz3 : ¬ ((c : Int) < (n : Int) + 1) := by omega
    have hb3 : (i : Int) ≤ (n : Int) := by omega
    have hw1 : IntKind.i64.wrap ((i : Int) + 1) = (i : Int) + 1 := by rw [IntKind.wrap_i64]; omega
    have hb1 : (0 : Int) ≤ (i : Int) + 1 := by omega
    have htn : ((i : Int) + 1).toNat = i + 1 := by omega
    have hb2 : ¬ (c = i + 1) := by omega
    have hb4 : ¬ (c = i) := by omega
    have hb5 : (i : Int) ≤ (n : Int) + 1 := by omega
    have hin : i ≤ n := by omega
    obtain ⟨inf, i1, i2, i3, i4⟩ := elemBb.hi
    have hclen : cs.length = n * 2 := hcl
    have hdl : (cs.drop (i * 2)).length = (n - i) * 2 := by rw [List.length_drop, hclen]; omega
    have hcell : ∀ j v, cs[j]? = some v → w.cell? ⟨g, j, none⟩ = some v := fun j v hj => by
      rw [hB.cell j]
      rw [← htk, List.getElem?_take] at hj
      split at hj
      · simpa using hj
      · cases hj
    have hcp1 : ∀ ty dc sc, (Builtin.copy_ #[27, 27] ty #[.slice (some ⟨g, (i + 1) * 2, none⟩) (n - i) dc, .slice (some ⟨g, i * 2, none⟩) (n + 1 - i) sc]).run Try.prog w.drew = .ok (goInt (Nat.min (n + 1 - i) (n - i))) (w.drew.setCells g ((i + 1) * 2) (cs.drop (i * 2))) := fun ty dc sc =>
      run_copy_sized w.drew _ _ ty 32 2 g ((i + 1) * 2) (n - i) dc ⟨g, i * 2, none⟩ (n + 1 - i) sc (cs.drop (i * 2)) Try.underlying27 i1 i3 (by rw [hdl, show Nat.min (n + 1 - i) (n - i) = n - i from Nat.min_eq_right (by omega)])
        (fun j v hj => by rw [Addr.add_lit]; rw [List.getElem?_drop] at hj; exact hcell _ v hj)
        (fun j hj => by rw [hdl] at hj; show (w.cell? _).isSome = true; rw [hB.cell, Array.getElem?_eq_getElem (by rw [hcs]; omega)]; rfl)
        (fun j hj => hB.free _) (fun v hv => h1c v (List.mem_of_mem_drop hv))
    obtain ⟨W1, hW1⟩ : ∃ W1, W1 = w.drew.setCells g ((i + 1) * 2) (cs.drop (i * 2)) := ⟨_, rfl⟩
    obtain ⟨cur1, hB1, hl1⟩ := Blk.setCells (cs.drop (i * 2)) ((i + 1) * 2) hB.drew (by rw [hdl, hcs]; omega)
    rw [← hW1] at hcp1 hB1
    have hbW : Blk W1 b X.toArray 32 := by
      rw [hW1]; exact ((below_cells _ _ _).2.2.2.2 b hne).trans hb
    have hs1 : cur1.size = c * 2 := by
      have := congrArg List.length hl1
      simp [hdl, hcs] at this
      omega
    have hcp2 : ∀ (W : World), (∀ x, W.cell? x = W1.cell? x) → (∀ x, W.frozen? x = W1.frozen? x) → ∀ ty dl dc, (Builtin.copy_ #[27, 27] ty #[.slice (some ⟨g, i * 2, none⟩) (n + 1 - i) dc, .slice (some ⟨b, 0, none⟩) 1 dl]).run Try.prog W = .ok (goInt (Nat.min 1 (n + 1 - i))) (W.setCells g (i * 2) X) := fun W hWc hWf ty dl dc =>
      run_copy_sized W _ _ ty 32 2 g (i * 2) (n + 1 - i) dc ⟨b, 0, none⟩ 1 dl X Try.underlying27 i1 i3 (by rw [show Nat.min 1 (n + 1 - i) = 1 from Nat.min_eq_left (by omega), hX, Nat.one_mul])
        (fun j v hj => by rw [Addr.add_lit, hWc, hbW.cell]; simpa using hj)
        (fun j hj => by have h9 := hj; rw [hX] at h9; rw [hWc, hB1.cell, Array.getElem?_eq_getElem (by rw [hs1]; omega)]; rfl)
        (fun j hj => by rw [hWf]; exact hB1.free _) (fun v hv => hX1 v hv)
    have HB := Lib.hid hb
    have HBB := Lib.hid hB
    have mixed : Try.prog.follows .mixedOrders = true := by kernel_rfl
    obtain ⟨zs, hzs⟩ : ∃ zs, zs = cs.take (i * 2) ++ X ++ cs.drop (i * 2) := ⟨_, rfl⟩
    rw [← hzs]
    have HZS := Lib.hid hzs
    have HL1 := Lib.hid hl1
    have HB1 := Lib.hid hB1
    have HW1 := Lib.hid hW1
    have HTK := Lib.hid htk
    clear hb hB hh hzs hl1 hB1 hW1 htk hbW hcell
    go_enter Try.func27, Try.ntmps27
    have H := HS.start NoD w
    go_upto_region 14 with fail
    go_wp2_with (simp only [hov])
    go_region_law_o (refine step_copy_runI rfl _ _ 27 27 rfl _ _ (by simp [Act.eval, Act.put]) (by simp [Act.eval, Act.put]) (hcp1 _ _ _) ?_)
    go_wp2_with (at_builtin; refine wpList_copy_runI _ rfl _ _ 27 27 rfl _ _ rfl rfl (hcp2 _ (fun _ => rfl) (fun _ => rfl) _ _ _) ?_)
    go_ret
    obtain ⟨cur2, hB2, hl2⟩ := Blk.setCells X (i * 2) HB1.out (by rw [hs1, hX]; omega)
    have hl1 := HL1.out
    have htk := HTK.out
    have hLl : cur.toList.length = c * 2 := by simpa using hcs
    have e1 : cur1.toList.take (i * 2) = cs.take (i * 2) := by
      rw [hl1, List.append_assoc, List.take_append_of_le_length (by rw [List.length_take]; omega), List.take_take, Nat.min_eq_left (by omega), ← htk, List.take_take, Nat.min_eq_left (by omega)]
    have e2 : cur1.toList.drop (i * 2 + X.length) = cs.drop (i * 2) ++ cur.toList.drop ((i + 1) * 2 + (cs.drop (i * 2)).length) := by
      rw [hl1, List.append_assoc]
      exact List.drop_left' (by rw [List.length_take, hX]; omega)
    have hz : zs.length = (n + 1) * 2 := by
      rw [HZS.out, List.length_append, List.length_append, hdl, List.length_take, hclen, hX]
      omega
    refine ⟨g, c, rfl, ⟨hz, .inr ⟨g, c, cur2, rfl, Nat.zero_le _, hB2, hroom, hcm, ?_, ?_⟩⟩, ?_, .inl rfl⟩
    · have h1 := congrArg List.length hl2
      rw [List.length_append, List.length_append, List.length_take, List.length_drop] at h1
      have h2 := hX
      simp only [Array.length_toList] at h1
      omega
    · rw [hl2, e1, e2, ← List.append_assoc, ← HZS.out]
      exact List.take_left' hz
    · obtain ⟨a1, a2, a3, a4, a5⟩ := below_cells (b := g) X (i * 2) W1
      obtain ⟨b1, b2, b3, b4, b5⟩ := below_cells (b := g) (cs.drop (i * 2)) ((i + 1) * 2) w.drew
      rw [← HW1.out] at b1 b2 b3 b4 b5
      exact ⟨a1.trans b1, a2.trans b2, a3.trans b3, by rw [a4, b4]; exact Nat.le_refl _, fun k hk hne => (a5 k (fun e => hne (by rw [e]; rfl))).trans (b5 k (fun e => hne (by rw [e]; rfl)))⟩
set_option maxHeartbeats 4000000 in
theorem insert_growBb {g n c b i : Nat} {cs : List Value} {X : List Value} (hX : X.length = 2) (hX1 : ∀ u ∈ X, u.oneCell' = true) (hi : i < n) (hn : n ≤ 1000) (hroom : c < n + 1) (h1c : ∀ u ∈ cs, u.oneCell' = true) (w : World) (hr : w.ownsRow 0 32 2 (.slice (some ⟨g, 0, none⟩) n c) n cs) (hb : Blk w b X.toArray 32) :
    Calls Try.prog 27 #[.slice (some ⟨g, 0, none⟩) n c, .int .i64 i, .slice (some ⟨b, 0, none⟩) 1 1] w (GrewPost (.slice (some ⟨g, 0, none⟩) n c) 32 2 (n + 1) (cs.take (i * 2) ++ X ++ cs.drop (i * 2)) w) := by
  obtain ⟨hcl, ⟨h2, h3⟩ | ⟨g', cap, cur, hv, -, hh, hnc, hcm, hcs, htk⟩⟩ := hr
  · omega
  · obtain ⟨he, -, rfl⟩ := Value.slice.inj hv
    obtain rfl : g = g' := by simpa using he
    clear hv he
    have hB : Blk w g cur 32 := hh
    have hgl := hB.lt
    have hbl := hb.lt
    have hz2 : ¬ ((i : Int) = (n : Int)) := by omega
    have hz3 : (c : Int) < (n : Int) + 1 := by omega
    have hb3 : (i : Int) ≤ (n : Int) := by omega
    have hw1 : IntKind.i64.wrap ((i : Int) + 1) = (i : Int) + 1 := by rw [IntKind.wrap_i64]; omega
    have hb1 : (0 : Int) ≤ (i : Int) + 1 := by omega
    have htn : ((i : Int) + 1).toNat = i + 1 := by omega
    have hb5 : (i : Int) ≤ (n : Int) + 1 := by omega
    have hin : i ≤ n := by omega
    have hci : ¬ (c = i) := by omega
    obtain ⟨inf, i1, i2, i3, i4⟩ := elemBb.hi
    have hclen : cs.length = n * 2 := hcl
    have hdl : (cs.drop (i * 2)).length = (n - i) * 2 := by rw [List.length_drop, hclen]; omega
    have htl : (cs.take (i * 2)).length = i * 2 := by rw [List.length_take, hclen]; omega
    have hcell : ∀ j v, cs[j]? = some v → w.cell? ⟨g, j, none⟩ = some v := fun j v hj => by
      rw [hB.cell j]
      rw [← htk, List.getElem?_take] at hj
      split at hj
      · simpa using hj
      · cases hj
    have hold : (Builtin.firstCells inf.size i (.slice (some ⟨g, 0, none⟩) i c)).run Try.prog w.drew = .ok (cs.take (i * 2)).toArray w.drew := by
      rw [i3]
      exact run_firstCells_some w.drew 2 i ⟨g, 0, none⟩ i c (cs.take (i * 2)) htl (fun j v hj => by
        rw [Addr.add_lit, Nat.zero_add]
        rw [List.getElem?_take] at hj
        split at hj
        · exact hcell j v hj
        · cases hj)
    obtain ⟨GC, hGC⟩ : ∃ GC, GC = grownCap w (n + 1) c 32 := ⟨_, rfl⟩
    have hGn : n + 1 ≤ GC := by rw [hGC]; exact grownCap_ge w _ _ _
    have hGm : GC ≤ maxLen := by rw [hGC]; exact grownCap_le_maxLen w (n + 1) c _ (by unfold maxLen; omega)
    obtain ⟨Z, hZ⟩ : ∃ Z : Array Value, Z = Builtin.zeroCells (Value.agg #[.int .i64 0, .slice none 0 0]).cells (n + 1 - i) ++ Builtin.zeroCells (Value.agg #[.int .i64 0, .slice none 0 0]).cells (GC - (n + 1)) := ⟨_, rfl⟩
    have hZs : Z.size = (GC - i) * 2 := by
      rw [hZ, Array.size_append, size_zeroCells, size_zeroCells]
      show (n + 1 - i) * 2 + (GC - (n + 1)) * 2 = _
      omega
    have hrz : ∀ ty, (Builtin.append_ #[27, 3] ty #[.slice (some ⟨g, 0, none⟩) i c, .int .i64 ((n : Int) + 1 - (i : Int))]).run Try.prog w = .ok (.slice (some ⟨w.heap.size, 0, none⟩) (n + 1) GC) (w.drew.alloc (.cells ((cs.take (i * 2)).toArray ++ Z) 32)) := fun ty => by
      have h := Lib.run_append_grow_zeros w 27 3 ty 32 inf _ .i64 .i64 Try.underlying27 (by kernel_rfl) i1 i2 (some ⟨g, 0, none⟩) i c (cs.take (i * 2)) hold (n + 1 - i) (by omega) (by rw [i3]; decide) (by omega) (by omega) (by rw [i4]; omega) (by rw [i4, show i + (n + 1 - i) = n + 1 by omega]; exact growslice_fits (by omega) (by omega))
      rw [show i + (n + 1 - i) = n + 1 by omega, ← hGC] at h
      rw [show (n : Int) + 1 - (i : Int) = ((n + 1 - i : Nat) : Int) by omega, hZ]
      rw [← Array.append_assoc]
      exact h
    obtain ⟨ROW, hROW⟩ : ∃ ROW, ROW = (cs.take (i * 2)).toArray ++ Z := ⟨_, rfl⟩
    have hRs : ROW.size = GC * 2 := by rw [hROW, Array.size_append, hZs, List.size_toArray, htl]; omega
    have hRl : ROW.toList = cs.take (i * 2) ++ Z.toList := by rw [hROW]; simp
    rw [← hROW] at hrz
    obtain ⟨W1, hW1⟩ : ∃ W1, W1 = w.drew.alloc (.cells ROW 32) := ⟨_, rfl⟩
    have hR1 : Blk W1 w.heap.size ROW 32 := by rw [hW1]; exact Blk.new w.drew ROW _
    have hbW : Blk W1 b X.toArray 32 := by rw [hW1]; exact hb.drew.alloc _
    have hgW : Blk W1 g cur 32 := by rw [hW1]; exact hB.drew.alloc _
    have hcpA : ∀ (W : World), (∀ x, W.cell? x = W1.cell? x) → (∀ x, W.frozen? x = W1.frozen? x) → ∀ ty dl dc, (Builtin.copy_ #[27, 27] ty #[.slice (some ⟨w.heap.size, i * 2, none⟩) (n + 1 - i) dc, .slice (some ⟨b, 0, none⟩) 1 dl]).run Try.prog W = .ok (goInt (Nat.min 1 (n + 1 - i))) (W.setCells w.heap.size (i * 2) X) := fun W hWc hWf ty dl dc =>
      run_copy_sized W _ _ ty 32 2 w.heap.size (i * 2) (n + 1 - i) dc ⟨b, 0, none⟩ 1 dl X Try.underlying27 i1 i3 (by rw [show Nat.min 1 (n + 1 - i) = 1 from Nat.min_eq_left (by omega), hX, Nat.one_mul])
        (fun j v hj => by rw [Addr.add_lit, hWc, hbW.cell]; simpa using hj)
        (fun j hj => by have h9 := hj; rw [hX] at h9; rw [hWc, hR1.cell, Array.getElem?_eq_getElem (by rw [hRs]; omega)]; rfl)
        (fun j hj => by rw [hWf]; exact hR1.free _) (fun v hv => hX1 v hv)
    obtain ⟨cur1, hR2, hl1⟩ := Blk.setCells X (i * 2) hR1 (by rw [hRs, hX]; omega)
    have hgW2 : Blk (W1.setCells w.heap.size (i * 2) X) g cur 32 := ((below_cells _ _ _).2.2.2.2 g (by omega)).trans hgW
    have hs1 : cur1.size = GC * 2 := by
      have := congrArg List.length hl1
      simp [hX, hRs] at this
      omega
    have hcpB : ∀ (W : World), (∀ y, W.cell? y = (W1.setCells w.heap.size (i * 2) X).cell? y) → (∀ y, W.frozen? y = (W1.setCells w.heap.size (i * 2) X).frozen? y) → ∀ ty dc sc, (Builtin.copy_ #[27, 27] ty #[.slice (some ⟨w.heap.size, (i + 1) * 2, none⟩) (n - i) dc, .slice (some ⟨g, i * 2, none⟩) (n - i) sc]).run Try.prog W = .ok (goInt (Nat.min (n - i) (n - i))) (W.setCells w.heap.size ((i + 1) * 2) (cs.drop (i * 2))) := fun W hWc hWf ty dc sc =>
      run_copy_sized W _ _ ty 32 2 w.heap.size ((i + 1) * 2) (n - i) dc ⟨g, i * 2, none⟩ (n - i) sc (cs.drop (i * 2)) Try.underlying27 i1 i3 (by rw [hdl, show Nat.min (n - i) (n - i) = n - i from Nat.min_self _])
        (fun j v hj => by
          rw [Addr.add_lit, hWc, hgW2.cell, ← hB.cell]
          rw [List.getElem?_drop] at hj
          exact hcell _ v hj)
        (fun j hj => by rw [hdl] at hj; rw [hWc, hR2.cell, Array.getElem?_eq_getElem (by rw [hs1]; omega)]; rfl)
        (fun j hj => by rw [hWf]; exact hR2.free _) (fun v hv => h1c v (List.mem_of_mem_drop hv))
    have mixed : Try.prog.follows .mixedOrders = true := by kernel_rfl
    have hGi : ¬ (GC = i) := by omega
    have hGi1 : ¬ (GC = i + 1) := by omega
    have hG63 : GC ≤ 9223372036854775807 := by unfold maxLen at hGm; omega
    obtain ⟨zs, hzs⟩ : ∃ zs, zs = cs.take (i * 2) ++ X ++ cs.drop (i * 2) := ⟨_, rfl⟩
    rw [← hzs]
    have HZS := Lib.hid hzs
    have HL1 := Lib.hid hl1
    have HR2 := Lib.hid hR2
    have HRL := Lib.hid hRl
    have HGC := Lib.hid hGC
    clear hb hB hh hzs hl1 hR1 hR2 htk hbW hgW hgW2 hcell hold hRl hGC hROW hZ hZs
    subst hW1
    have hE1 : ∀ y, ((w.alloc (.cells ROW 32)).drew).cell? y = (w.drew.alloc (.cells ROW 32)).cell? y := fun y => rfl
    have hE2 : ∀ y, ((w.alloc (.cells ROW 32)).drew).frozen? y = (w.drew.alloc (.cells ROW 32)).frozen? y := fun y => rfl
    have hF1 : ∀ y, (((w.alloc (.cells ROW 32)).drew.setCells w.heap.size (i * 2) X).drew).cell? y = ((w.drew.alloc (.cells ROW 32)).setCells w.heap.size (i * 2) X).cell? y := fun y => rfl
    have hF2 : ∀ y, (((w.alloc (.cells ROW 32)).drew.setCells w.heap.size (i * 2) X).drew).frozen? y = ((w.drew.alloc (.cells ROW 32)).setCells w.heap.size (i * 2) X).frozen? y := fun y => rfl
    go_enter Try.func27, Try.ntmps27
    have H := HS.start NoD w
    go_wp2_with (first
      | (at_builtin; refine Lib.wpList_append_run _ rfl _ _ _ _ rfl _ _ rfl rfl _ _ (hrz _) ?_)
      | (at_builtin; refine wpList_copy_runI _ rfl _ _ 27 27 rfl _ _ rfl rfl (hcpA _ hE1 hE2 _ _ _) ?_))
    go_region_law_o (refine step_copy_runI rfl _ _ 27 27 rfl (.slice (some ⟨w.heap.size, (i + 1) * 2, none⟩) (n - i) (GC - (i + 1))) (.slice (some ⟨g, i * 2, none⟩) (n - i) (c - i)) (by simp [Act.eval, Act.put]) (by simp [Act.eval, Act.put]) (hcpB _ hF1 hF2 3 (GC - (i + 1)) (c - i)) ?_)
    go_wp2_with fail
    go_ret
    obtain ⟨cur2, hB2, hl2⟩ := Blk.setCells (w := ((w.alloc (.cells ROW 32)).drew.setCells w.heap.size (i * 2) X).drew) (cs.drop (i * 2)) ((i + 1) * 2) (show Blk _ w.heap.size cur1 32 from HR2.out) (by rw [hdl, hs1]; omega)
    have hl1 := HL1.out
    have e0 : ROW.toList.take (i * 2) = cs.take (i * 2) := by rw [HRL.out]; exact List.take_left' htl
    have e1 : cur1.toList.take ((i + 1) * 2) = cs.take (i * 2) ++ X := by
      rw [hl1, e0]
      exact List.take_left' (by rw [List.length_append, htl, hX]; omega)
    have hz : zs.length = (n + 1) * 2 := by
      rw [HZS.out, List.length_append, List.length_append, hdl, htl, hX]
      omega
    have h2 := congrArg List.length hl2
    simp only [List.length_append, List.length_take, List.length_drop, Array.length_toList, hclen, hs1, hX] at h2
    refine ⟨w.heap.size, GC, rfl, ⟨hz, .inr ⟨w.heap.size, GC, cur2, rfl, Nat.zero_le _, hB2, hGn, hGm, by omega, ?_⟩⟩, ?_, .inr rfl⟩
    · rw [hl2, e1, ← HZS.out]
      exact List.take_left' hz
    · obtain ⟨a1, a2, a3, a4, a5⟩ := below_cells (b := w.heap.size) (cs.drop (i * 2)) ((i + 1) * 2) (((w.alloc (.cells ROW 32)).drew.setCells w.heap.size (i * 2) X).drew)
      obtain ⟨b1, b2, b3, b4, b5⟩ := below_cells (b := w.heap.size) X (i * 2) ((w.alloc (.cells ROW 32)).drew)
      refine ⟨a1.trans b1, a2.trans b2, a3.trans b3, ?_, fun k hk hne => ?_⟩
      · have : (w.alloc (.cells ROW 32)).drew.heap.size = w.heap.size + 1 := World.size_alloc _ _
        have h4 : ((w.alloc (.cells ROW 32)).drew.setCells w.heap.size (i * 2) X).drew.heap.size = w.heap.size + 1 := b4.trans this
        omega
      · exact ((a5 k (by omega)).trans (b5 k (by omega))).trans (Below.heap_alloc w _ k hk)
theorem insert_anyBb {sa : Option Addr} {n c b i : Nat} {cs : List Value} {X : List Value} (hX : X.length = 2) (hX1 : ∀ u ∈ X, u.oneCell' = true) (hi : i ≤ n) (hn : n ≤ 1000) (hne : ∀ g, sa = some ⟨g, 0, none⟩ → b ≠ g) (h1c : ∀ u ∈ cs, u.oneCell' = true) (w : World) (hr : w.ownsRow 0 32 2 (.slice sa n c) n cs) (hb : Blk w b X.toArray 32) :
    Calls Try.prog 27 #[.slice sa n c, .int .i64 i, .slice (some ⟨b, 0, none⟩) 1 1] w (GrewPost (.slice sa n c) 32 2 (n + 1) (cs.take (i * 2) ++ X ++ cs.drop (i * 2)) w) := by
  by_cases he : i = n
  · subst he
    have := insert_endBb hX hX1 hn w hr hb
    have hl : cs.length = i * 2 := hr.1
    rw [List.take_of_length_le (by omega), List.drop_eq_nil_of_le (by omega), List.append_nil]
    exact this
  · obtain ⟨g, cap, hv, -, -⟩ := World.ownsRow.form hr (by omega)
    obtain ⟨rfl, -, rfl⟩ := Value.slice.inj hv
    by_cases hroom : n + 1 ≤ c
    · exact insert_roomBb hX hX1 (by omega) hn hroom (hne g rfl) h1c w hr hb
    · exact insert_growBb hX hX1 (by omega) hn (by omega) h1c w hr hb

end Go.Proofs.Ytheccfiidollpaa
