/- Several texts in one: InsK, InsPg, InsPr, DelPg. -/
import Derived.Test.YtedbpmckgiifpaaGreatO5
import Derived.Shelf.Spec.SlicesInsert
import Derived.Lib.AppendZerosOnto
import Derived.Lib.SliceRun
import Derived.Deep.RegionLaw
/- What slices.Insert needs at any kind of element: copy, cells stored one after the other. -/
namespace Go.Proofs.YtedbpmckgiifpaaGreat
set_option linter.unusedSimpArgs false
set_option linter.unusedVariables false
open Go.RowKit
set_option maxRecDepth 100000

/-- 'copy' of elements of any size. -/
theorem run_copy_sized {P : Program} (w : World) (dT sT ty elem : TypeId) (k b o dLen dCap : Nat) (a : Addr) (sLen sCap : Nat) (cs : List Value)
    (hu : P.underlying dT = some (.slice elem)) {i : TypeInfo} (hi : P.info? elem = some i) (hs : i.size = k) (hn : cs.length = Nat.min sLen dLen * k)
    (hsrc : ∀ j v, cs[j]? = some v → w.cell? (a.add j) = some v) (hc : ∀ j, j < cs.length → (w.cell? ⟨b, o + j, none⟩).isSome = true) (hf : ∀ j, j < cs.length → w.frozen? ⟨b, o + j, none⟩ = false) (h1 : ∀ v ∈ cs, v.oneCell' = true) :
    (Builtin.copy_ #[dT, sT] ty #[.slice (some ⟨b, o, none⟩) dLen dCap, .slice (some a) sLen sCap]).run P w = .ok (goInt (Nat.min sLen dLen)) (w.setCells b o cs) := by
  have hl := run_loadCells_list (P := P) w a cs hsrc
  have hst := run_storeCells_cells (P := P) b o cs 0 w (by simpa using hc) (by simpa using hf) h1
  simp [Builtin.copy_, run_underlying hu, Builtin.lenOf, Builtin.firstCells, sizeOf, typeInfo, hi, hs, ← hn, hl, hst]
theorem Blk.setCells {b : Nat} {t : TypeId} : ∀ (vs : List Value) (o : Nat) {w : World} {cs : Array Value}, Blk w b cs t → o + vs.length ≤ cs.size → ∃ cs', Blk (w.setCells b o vs) b cs' t ∧ cs'.toList = cs.toList.take o ++ vs ++ cs.toList.drop (o + vs.length)
  | [], o, w, cs, h, _ => ⟨cs, h, by simp⟩
  | v :: r, o, w, cs, h, hl => by
    obtain ⟨cs', h1, h2⟩ := Blk.setCells r (o + 1) (h.set o v) (by simp at hl ⊢; omega)
    refine ⟨cs', h1, ?_⟩
    have ho : o < cs.toList.length := by simp at hl ⊢; omega
    rw [h2, Array.toList_setIfInBounds]
    have e1 : (cs.toList.set o v).take (o + 1) = cs.toList.take o ++ [v] := by
      rw [List.take_add_one, List.take_set_of_le (Nat.le_refl _), List.getElem?_set_self ho]; rfl
    have e2 : (cs.toList.set o v).drop (o + 1 + r.length) = cs.toList.drop (o + 1 + r.length) := by
      rw [List.drop_set_of_lt (by omega)]
    rw [e1, e2, List.length_cons, show o + 1 + r.length = o + (r.length + 1) by omega]
    simp
theorem below_cells {b : Nat} : ∀ (vs : List Value) (o : Nat) (w : World), (w.setCells b o vs).os = w.os ∧ (w.setCells b o vs).tape = w.tape ∧ (w.setCells b o vs).output = w.output ∧ (w.setCells b o vs).heap.size = w.heap.size ∧ ∀ k, k ≠ b → (w.setCells b o vs).heap[k]? = w.heap[k]?
  | [], _, _ => ⟨rfl, rfl, rfl, rfl, fun _ _ => rfl⟩
  | v :: r, o, w => by
    obtain ⟨h1, h2, h3, h4, h5⟩ := below_cells r (o + 1) (w.setCell ⟨b, o, none⟩ v)
    exact ⟨h1, h2, h3, h4.trans (by simp [World.setCell]), fun k hk => (h5 k hk).trans (Below.heap_setCell _ _ _ _ hk)⟩
/-- A slice of one's own has grown, in place or anew. -/
def GrewPost (v : Value) (e : TypeId) (k n : Nat) (ys : List Value) (w : World) (x : Ending) (w' : World) : Prop :=
  ∃ g cap, x = .returned (.slice (some ⟨g, 0, none⟩) n cap) ∧ w'.ownsRow 0 e k (.slice (some ⟨g, 0, none⟩) n cap) n ys ∧ w.grownBy w' v.ownBlock ∧ (v.ownBlock = some g ∨ g = w.heap.size)
theorem HS.grewAt {D : Nat → Prop} {W w w' : World} {L : List Item} (h : HS D W L w) (i : Nat) {v : Value} {e : TypeId} {s n n' g cap : Nat} {xs ys : List Value} (hi : L[i]? = some (.row v e s n xs)) (h2 : w'.ownsRow 0 e s (.slice (some ⟨g, 0, none⟩) n' cap) n' ys) (h3 : w.grownBy w' v.ownBlock) (h4 : v.ownBlock = some g ∨ g = w.heap.size) :
    HS D W (L.set i (.row (.slice (some ⟨g, 0, none⟩) n' cap) e s n' ys)) w' := grown_row h i hi h2 h3 h4

end Go.Proofs.YtedbpmckgiifpaaGreat

/- slices.Insert at api.Page. -/
namespace Go.Proofs.YtedbpmckgiifpaaGreat
set_option linter.unusedSimpArgs false
set_option linter.unusedVariables false
open Go.RowKit
set_option maxRecDepth 100000
attribute [local go_sem] lt_more ne_more ne_more'
attribute [local irreducible] wpX wpF Calls

end Go.Proofs.YtedbpmckgiifpaaGreat

/- slices.Insert at api.Program. -/
namespace Go.Proofs.YtedbpmckgiifpaaGreat
set_option linter.unusedSimpArgs false
set_option linter.unusedVariables false
open Go.RowKit
set_option maxRecDepth 100000
attribute [local go_sem] lt_more ne_more ne_more'
attribute [local irreducible] wpX wpF Calls

end Go.Proofs.YtedbpmckgiifpaaGreat

/- slices.Delete of one page. -/
namespace Go.Proofs.YtedbpmckgiifpaaGreat
set_option linter.unusedSimpArgs false
set_option linter.unusedVariables false
open Go.RowKit
set_option maxRecDepth 100000
attribute [local go_sem] lt_more ne_more ne_more'
attribute [local irreducible] wpX wpF Calls

/-- 'clear' of one element of any size. -/
theorem run_clear_one {P : Program} (w : World) (t e ty : TypeId) (z : Value) (zs : List Value) (ht : P.underlying t = some (.slice e)) (hv : ∀ w, (zeroValue e).run P w = .ok z w) (hz : z.cells.toList = zs) (h1 : ∀ v ∈ zs, v.oneCell' = true) (b o c : Nat)
    (hc : ∀ j, j < zs.length → (w.cell? ⟨b, o + j, none⟩).isSome = true) (hf : ∀ j, j < zs.length → w.frozen? ⟨b, o + j, none⟩ = false) :
    (Builtin.clear_ #[t] ty #[.slice (some ⟨b, o, none⟩) 1 c]).run P w = .ok (.tuple #[]) (w.setCells b o zs) := by
  have hzc : (Builtin.zeroCells z.cells 1).toList = zs := by
    rw [← hz]
    simp [Builtin.zeroCells]
    apply List.ext_getElem
    · simp
    · intro i h1 h2
      have : i < z.cells.size := by simpa using h2
      simp [Nat.mod_eq_of_lt this]
      rw [getElem!_pos z.cells i this]
  have hst := run_storeCells_cells (P := P) b o zs 0 w (by simpa using hc) (by simpa using hf) h1
  simp only [Nat.add_zero] at hst
  simp [Builtin.clear_, run_underlying ht, hv, hzc, hst]
set_option maxHeartbeats 4000000 in
theorem delete1Pg {g n c i : Nat} {cs : List Value} (hi : i < n) (hn : n ≤ 1000) (h1c : ∀ u ∈ cs, u.oneCell' = true) (w : World) (hr : w.ownsRow 0 49 3 (.slice (some ⟨g, 0, none⟩) n c) n cs) :
    Calls Tryz.prog 87 #[.slice (some ⟨g, 0, none⟩) n c, .int .i64 i, .int .i64 ((i : Int) + 1)] w (GrewPost (.slice (some ⟨g, 0, none⟩) n c) 49 3 (n - 1) (cs.take (i * 3) ++ cs.drop ((i + 1) * 3)) w) := by
  obtain ⟨hcl, ⟨h2, h3⟩ | ⟨g', cap, cur, hv, -, hh, hnc, hcm, hcs, htk⟩⟩ := hr
  · omega
  · obtain ⟨he, -, rfl⟩ := Value.slice.inj hv
    obtain rfl : g = g' := by simpa using he
    clear hv he
    have hB : Blk w g cur 49 := hh
    obtain ⟨inf, i1, i2, i3, i4⟩ := elemPg.hi
    have hclen : cs.length = n * 3 := hcl
    obtain ⟨news, hnews⟩ : ∃ news, news = cs.drop ((i + 1) * 3) := ⟨_, rfl⟩
    have hdl : news.length = (n - (i + 1)) * 3 := by rw [hnews, List.length_drop, hclen]; omega
    have hcell : ∀ j v, cs[j]? = some v → w.cell? ⟨g, j, none⟩ = some v := fun j v hj => by
      rw [hB.cell j]
      rw [← htk, List.getElem?_take] at hj
      split at hj
      · simpa using hj
      · cases hj
    obtain ⟨A, hA, hsrc⟩ : ∃ A : Addr, (if c = i + 1 then (some ⟨g, 0, none⟩ : Option Addr) else some ⟨g, (i + 1) * 3, none⟩) = some A ∧ Hid (∀ t u, news[t]? = some u → w.drew.cell? (A.add t) = some u) := by
      by_cases h : c = i + 1
      · refine ⟨⟨g, 0, none⟩, by rw [if_pos h], fun t u hu => ?_⟩
        have h0 : news.length = 0 := by rw [hdl]; omega
        rw [List.length_eq_zero_iff.1 h0] at hu
        simp at hu
      · refine ⟨⟨g, (i + 1) * 3, none⟩, by rw [if_neg h], fun t u hu => ?_⟩
        rw [hnews, List.getElem?_drop] at hu
        rw [Addr.add_lit]
        exact hcell _ u hu
    have s2 : Hid (∀ u ∈ news, u.oneCell' = true) := fun u hu => h1c u (by rw [hnews] at hu; exact List.mem_of_mem_drop hu)
    have s3 : Hid (∀ t, t < news.length → (w.drew.cell? ⟨g, 0 + i * 3 + t, none⟩).isSome = true ∧ w.drew.frozen? ⟨g, 0 + i * 3 + t, none⟩ = false) := fun t ht => by
      rw [hdl] at ht
      exact ⟨by show (w.cell? _).isSome = true; rw [hB.cell, Array.getElem?_eq_getElem (by rw [hcs]; omega)]; rfl, hB.free _⟩
    obtain ⟨W1, hW1⟩ : ∃ W1, W1 = w.drew.setCells g (0 + i * 3) news := ⟨_, rfl⟩
    obtain ⟨cur1, hB1, hl1⟩ := Blk.setCells news (0 + i * 3) hB.drew (by rw [hdl, hcs]; omega)
    rw [← hW1] at hB1
    have hs1 : cur1.size = c * 3 := by
      have := congrArg List.length hl1
      simp [hdl, hcs] at this
      omega
    have hcl2 : ∀ ty d, (Builtin.clear_ #[50] ty #[.slice (some ⟨g, (n - 1) * 3, none⟩) 1 d]).run Tryz.prog W1 = .ok (.tuple #[]) (W1.setCells g ((n - 1) * 3) [.int .i64 0, .int .i64 0, .bool false]) := fun ty d =>
      run_clear_one W1 _ 49 ty (.agg #[.int .i64 0, .int .i64 0, .bool false]) [.int .i64 0, .int .i64 0, .bool false] Tryz.underlying50 (fun w => by kernel_rfl) rfl (fun v hv => by simp only [List.mem_cons, List.mem_nil_iff, or_false] at hv; rcases hv with rfl | rfl | rfl <;> rfl) g ((n - 1) * 3) d
        (fun j hj => by have : j < 3 := hj; rw [hB1.cell, Array.getElem?_eq_getElem (by rw [hs1]; omega)]; rfl) (fun j hj => hB1.free _)
    have hdl2 : Hid (news.length = (n - (i + 1)) * 3) := hdl
    have HW := Lib.hid hW1
    have HB1 := Lib.hid hB1
    have HL1 := Lib.hid hl1
    have HTK := Lib.hid htk
    have HNW := Lib.hid hnews
    have HS1 := Lib.hid hs1
    have HCS := Lib.hid hcs
    have HCL := Lib.hid hclen
    have hij : ¬ ((i : Int) = (i : Int) + 1) := by omega
    have hb0 : (i : Int) ≤ (i : Int) + 1 := by omega
    have hb1 : (i : Int) + 1 ≤ (n : Int) := by omega
    have hb2 : (0 : Int) ≤ (i : Int) + 1 := by omega
    have hb3 : (i : Int) ≤ (c : Int) := by omega
    have hb4 : (i : Int) + 1 ≤ (c : Int) := by omega
    have hb5 : (n : Int) ≤ (c : Int) := by omega
    have htn : ((i : Int) + 1).toNat = i + 1 := by omega
    have hin : i ≤ n := by omega
    have hic : i ≤ c := by omega
    have hjc : i + 1 ≤ c := by omega
    have hnm : i + (n - (i + 1)) = n - 1 := by omega
    have hn1 : n - (n - 1) = 1 := by omega
    have hz1 : ((n - 1 : Nat) : Int) ≤ (n : Int) := by omega
    have mixed : Tryz.prog.follows .mixedOrders = true := by kernel_rfl
    clear hnews hdl hcell hW1 hB1 hl1 hs1 hB hh htk hcs hcl hclen
    go_enter Tryz.func87, Tryz.ntmps87
    have H := HS.start NoD w
    go_wp2_with fail
    go_region_law_o (refine step_append_room rfl (.tmp 22) (.tmp 25) 50 rfl 49 inf 3 Tryz.underlying50 i1 i3 g 0 i c (by simp [Act.eval, Act.put]) A (n - (i + 1)) (c - (i + 1)) news (by simp [Act.eval, Act.put]) hdl2.out hsrc.out s2.out (by omega) s3.out ?_; rw [← HW.out, hnm])
    go_wp2
    go_ret
    obtain ⟨cur2, hB2, hl2⟩ := Blk.setCells [.int .i64 0, .int .i64 0, .bool false] ((n - 1) * 3) HB1.out (by rw [HS1.out]; show (n - 1) * 3 + 3 ≤ c * 3; omega)
    have hl1 := HL1.out
    have htk := HTK.out
    have hcs := HCS.out
    have hcl := HCL.out
    have hdl := hdl2.out
    have hLl : cur.toList.length = c * 3 := by simpa using hcs
    have hz : (cs.take (i * 3) ++ cs.drop ((i + 1) * 3)).length = (n - 1) * 3 := by rw [List.length_append, List.length_take, List.length_drop, hcl]; omega
    have e1 : cur1.toList.take ((n - 1) * 3) = cs.take (i * 3) ++ cs.drop ((i + 1) * 3) := by
      rw [hl1, Nat.zero_add, ← HNW.out]
      have e0 : cur.toList.take (i * 3) = cs.take (i * 3) := by rw [← htk, List.take_take, Nat.min_eq_left (by omega)]
      rw [e0]
      refine List.take_left' ?_
      rw [List.length_append, List.length_take, hcl, hdl]
      omega
    have hl3 : cur2.size = c * 3 := by
      have := congrArg List.length hl2
      simp [HS1.out] at this
      omega
    refine ⟨g, c, rfl, ⟨hz, .inr ⟨g, c, cur2, rfl, Nat.zero_le _, hB2, by omega, hcm, hl3, ?_⟩⟩, ?_, .inl rfl⟩
    · rw [hl2, e1, List.append_assoc]
      exact List.take_left' hz
    · obtain ⟨a1, a2, a3, a4, a5⟩ := below_cells (b := g) [.int .i64 0, .int .i64 0, .bool false] ((n - 1) * 3) W1
      obtain ⟨b1, b2, b3, b4, b5⟩ := below_cells (b := g) news (0 + i * 3) w.drew
      rw [← HW.out] at b1 b2 b3 b4 b5
      exact ⟨a1.trans b1, a2.trans b2, a3.trans b3, by rw [a4, b4]; exact Nat.le_refl _, fun k hk hne => (a5 k (fun e => hne (by rw [e]; rfl))).trans (b5 k (fun e => hne (by rw [e]; rfl)))⟩
end Go.Proofs.YtedbpmckgiifpaaGreat
