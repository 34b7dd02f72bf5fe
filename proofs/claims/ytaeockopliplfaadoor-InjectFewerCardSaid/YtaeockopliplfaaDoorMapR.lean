/- Ranging over a map[int]byte of one's own. -/
import Derived.Test.YtaeockopliplfaaDoorMapI
import Derived.Maps.RangeWalk
namespace Go.Proofs.YtaeockopliplfaaDoor
set_option linter.unusedSimpArgs false
set_option linter.unusedVariables false
open Go.RowKit
open Go.ChangeMaps (setBlock)

section
variable {P : Program} {D : Nat → Prop} {W w : World} {L : List Item} {ops : Array Oper} {rest : List Oper} {o : Oper} {a : Act} {Q : Exit → Act → World → Prop}
theorem wpList_range_I (hg : o.guard = none) (m : Operand) (t : TypeId) (hop : o.op = Op.range t m) {k e : TypeId} (ht : P.underlying t = some (.map k e)) (H : HS D W L w) (i : Nat) {b : Nat} {es : Array MapEntry} {clock : Nat} (hi : L[i]? = some (.obj b (.map es clock)))
    (hm : a.eval m = .map (some b)) (h : HS D W (L ++ [.obj w.heap.size (.mapIter (some b) clock #[] clock)]) (w.alloc (.mapIter (some b) clock #[] clock)) → wpList P ops Q rest (a.put o.dst (.pointer (some ⟨w.heap.size, 0, none⟩))) (w.alloc (.mapIter (some b) clock #[] clock))) : wpList P ops Q (o :: rest) a w := by
  refine wpList_plain hg fun K' hK' => ?_
  have hrun := run_range_map (P := P) w t k e b es clock ht (H.at i hi)
  unfold Oper.wp
  simp [execOp, hop, hm, hrun, Result.andThen]
  exact hK' _ _ (h H.allocObj)
/-- How many entries are left. -/
def leftN (es : Array MapEntry) (seen : Array Nat) : Nat := (leftOf es seen).size
theorem leftN_push {es : Array MapEntry} {seen : Array Nat} {e : MapEntry} (he : e ∈ (leftOf es seen).toList) : leftN es (seen.push e.born) < leftN es seen := by
  have hs : ∀ sn, leftN es sn = (es.toList.filter fun x => !sn.contains x.born).length := fun sn => by
    unfold leftN leftOf; rw [← Array.toList_filter, Array.length_toList]
  rw [hs, hs]
  unfold leftOf at he
  rw [Array.toList_filter, List.mem_filter] at he
  refine filter_lt (fun x => !seen.contains x.born) (fun x => !(seen.push e.born).contains x.born) ?_ e he.2 ?_ es.toList he.1
  · intro x hx
    simp only [Array.contains_push, Bool.not_or, Bool.and_eq_true] at hx
    first | exact hx.1 | exact hx.2
  · simp
theorem wpList_next_I (hg : o.guard = none) (it : Operand) (hop : o.op = Op.next it false) (H : HS D W L w) (i j : Nat) {bm r : Nat} {es : Array MapEntry} {clock : Nat} {seen : Array Nat} {M : List (Int × Int)} (hM : MapI es clock M)
    (hi : L[i]? = some (.obj bm (.map es clock))) (hj : L[j]? = some (.obj r (.mapIter (some bm) clock seen clock))) (hij : (L.set j (.obj r (.mapIter (some bm) clock seen clock)))[i]? = some (.obj bm (.map es clock))) (hit : a.eval it = .pointer (some ⟨r, 0, none⟩)) (hne : i ≠ j)
    (hDone : (∀ e ∈ es.toList, seen.contains e.born = true) → wpList P ops Q rest (a.put o.dst (.tuple #[.bool false])) w)
    (hMore : ∀ (x v : Int) (e : MapEntry) (w' : World), e ∈ es.toList → e.key = .int .i64 x → e.val = .int .u8 v → (x, v) ∈ M → leftN es (seen.push e.born) < leftN es seen →
      HS D W (L.set j (.obj r (.mapIter (some bm) clock (seen.push e.born) clock))) w' → (Instr.entry (.pointer (some ⟨r, 0, none⟩))).run P w' = .ok (.tuple #[.int .i64 x, .int .u8 v]) w' → wpList P ops Q rest (a.put o.dst (.tuple #[.bool true, .int .i64 x, .int .u8 v])) w') :
    wpList P ops Q (o :: rest) a w := by
  refine wpList_plain hg fun K' hK' => ?_
  unfold Oper.wp
  have hr : w.heap[r]? = some (.mapIter (some bm) clock seen clock) := H.at j hj
  have hb : w.heap[bm]? = some (.map es clock) := H.at i hi
  rcases run_next_at (P := P) w o.type r bm clock clock seen es clock hr hb hM.born (Nat.le_refl _) with ⟨h0, hrun⟩ | ⟨e, he, w1, hw1, hrun⟩
  · simp [execOp, hop, hit, hrun, Result.andThen]
    refine hK' _ _ (hDone fun e he => ?_)
    refine Decidable.byContradiction fun hc => ?_
    have : e ∈ leftOf es seen := by
      unfold leftOf
      rw [Array.mem_filter]
      exact ⟨by simpa using he, by simpa using hc⟩
    have h1 := Array.size_pos_of_mem this
    omega
  · have hel : e ∈ es.toList := by
      unfold leftOf at he
      rw [Array.toList_filter, List.mem_filter] at he
      exact he.1
    have hp : (e.key, e.val) ∈ M.map fun p => (Value.int .i64 p.1, Value.int .u8 p.2) := by
      rw [← hM.kv]; exact List.mem_map.2 ⟨e, hel, rfl⟩
    obtain ⟨p, hpM, hpe⟩ := List.mem_map.1 hp
    obtain ⟨x, v⟩ := p
    simp only [Prod.mk.injEq] at hpe
    have H1 : HS D W L w1 := by rcases hw1 with rfl | rfl; exact H; exact H.drew
    have H2 := H1.objTo j hj (.mapIter (some bm) clock (seen.push e.born) clock)
    have hb2 := H2.at i (A := .obj bm (.map es clock)) (by rw [List.getElem?_set_ne (Ne.symm hne)]; exact hi)
    have hj2 := H2.at j (A := .obj r (.mapIter (some bm) clock (seen.push e.born) clock)) (by rw [List.getElem?_set_self (List.getElem?_eq_some_iff.1 hj).1])
    have hen := run_entry_at (P := P) _ r bm clock seen es clock e hj2 hb2 hel hM.nodup
    simp [execOp, hop, hit, hrun, Result.andThen]
    rw [← hpe.1, ← hpe.2]
    exact hK' _ _ (hMore x v e _ hel hpe.1.symm hpe.2.symm hpM (leftN_push he) H2 (by rw [hpe.1, hpe.2]; exact hen))
end
end Go.Proofs.YtaeockopliplfaaDoor
