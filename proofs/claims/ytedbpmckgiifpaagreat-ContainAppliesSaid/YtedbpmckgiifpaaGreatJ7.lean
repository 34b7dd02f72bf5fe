/- Several texts in one: MapV, MapW, VMap. -/
import Derived.Test.YtedbpmckgiifpaaGreatJ1
import Derived.MapKept
import Derived.Maps.RangeRun
import Derived.Maps.RangeWalk
import Derived.Test.YtedbpmckgiifpaaGreatVLaw
/- A map of one's own from int to values of any kind: asking it (with and without ok), putting into it. -/
namespace Go.Proofs.YtedbpmckgiifpaaGreat
set_option linter.unusedSimpArgs false
set_option linter.unusedVariables false
open Go.RowKit
open Go.ChangeMaps (setBlock)

/-- The map's entries: the keys and what stands at each; stamps below the clock, each its own. -/
structure MapV (es : Array MapEntry) (clock : Nat) (M : List (Int × Value)) : Prop where
  kv : es.toList.map (fun e => (e.key, e.val)) = M.map fun p => (.int .i64 p.1, p.2)
  born : ∀ e ∈ es.toList, e.born < clock
  nodup : (es.toList.map (·.born)).Nodup
/-- What stands at a key. -/
def getV (x : Int) : List (Int × Value) → Option Value
  | [] => none
  | p :: M => if x = p.1 then some p.2 else getV x M
def putV (x : Int) (v : Value) : List (Int × Value) → List (Int × Value)
  | [] => [(x, v)]
  | p :: M => if x = p.1 then (p.1, v) :: M else p :: putV x v M
theorem MapV.nil : MapV #[] 0 [] := ⟨rfl, fun e h => (List.not_mem_nil h).elim, List.nodup_nil⟩
theorem findNow_V (x : Int) : ∀ (l : List MapEntry) (M : List (Int × Value)) (i : Nat), l.map (fun e => (e.key, e.val)) = M.map (fun p => (Value.int .i64 p.1, p.2)) →
    (getV x M = none ∧ Instr.findNow (.int .i64) (.int .i64 x) l i = some none ∧ ∀ v, putV x v M = M ++ [(x, v)]) ∨
    (∃ v j e, getV x M = some v ∧ l[j]? = some e ∧ e.key = .int .i64 x ∧ Instr.findNow (.int .i64) (.int .i64 x) l i = some (some (i + j, v)) ∧
      ∀ u, (l.set j { key := .int .i64 x, val := u, born := e.born }).map (fun e => (e.key, e.val)) = (putV x u M).map (fun p => (Value.int .i64 p.1, p.2)))
  | [], M, i, hk => by
    cases M with
    | nil => exact .inl ⟨rfl, rfl, fun _ => rfl⟩
    | cons => simp at hk
  | e :: l, M, i, hk => by
    cases M with
    | nil => simp at hk
    | cons s M =>
      simp only [List.map_cons, List.cons.injEq, Prod.mk.injEq] at hk
      by_cases hx : x = s.1
      · refine .inr ⟨s.2, 0, e, ?_, rfl, by rw [hk.1.1, hx], ?_, fun u => ?_⟩
        · simp [getV, hx]
        · simp [Instr.findNow, hk.1.1, Instr.sameNow, hx, hk.1.2]
        · simp [putV, hx, hk.2]
      · have hxs : (x == s.1) = false := by simpa using hx
        rcases findNow_V x l M (i + 1) hk.2 with ⟨h1, h2, h3⟩ | ⟨v, j, e', h1, hj, hkey, h2, h3⟩
        · exact .inl ⟨by simp [getV, hx, h1], by simp [Instr.findNow, hk.1.1, Instr.sameNow, hxs, h2], fun v => by simp [putV, hx, h3]⟩
        · refine .inr ⟨v, j + 1, e', by simp [getV, hx, h1], by simpa using hj, hkey, ?_, fun u => ?_⟩
          · simp only [Instr.findNow, hk.1.1, Instr.sameNow, hxs, h2]
            simp; omega
          · simp [putV, hx, hk.1, h3 u]
theorem set_bornV {l : List MapEntry} {j : Nat} {e e' : MapEntry} (he : l[j]? = some e) (hb : e'.born = e.born) : (l.set j e').map (·.born) = l.map (·.born) := by
  rw [List.map_set]
  apply List.ext_getElem?
  intro i
  rw [List.getElem?_set]
  by_cases hij : j = i
  · subst hij
    have hl := (List.getElem?_eq_some_iff.1 he).1
    have he2 : l[j] = e := (List.getElem?_eq_some_iff.1 he).2
    simp [he, hb, hl, he2]
  · simp [hij]
/-- A push, or a value put in place. -/
theorem MapV.push {es : Array MapEntry} {clock : Nat} {M : List (Int × Value)} (h : MapV es clock M) (x : Int) (v : Value) : MapV (es.push { key := .int .i64 x, val := v, born := clock }) (clock + 1) (M ++ [(x, v)]) := by
  refine ⟨by simp [h.kv], ?_, ?_⟩
  · intro e he'
    rw [Array.toList_push, List.mem_append] at he'
    rcases he' with he' | he'
    · have := h.born e he'; omega
    · rw [List.mem_singleton.1 he']; show clock < clock + 1; omega
  · rw [Array.toList_push, List.map_append, List.nodup_append]
    refine ⟨h.nodup, by simp, ?_⟩
    intro a ha b hb'
    obtain ⟨e, he', rfl⟩ := List.mem_map.1 ha
    simp at hb'
    have := h.born e he'
    omega
theorem MapV.turn {es es' : Array MapEntry} {clock : Nat} {M M' : List (Int × Value)} (h : MapV es clock M) {j : Nat} {e e' : MapEntry} (he : es.toList[j]? = some e) (hb : e'.born = e.born) (hes : es'.toList = es.toList.set j e')
    (hkv : es'.toList.map (fun e => (e.key, e.val)) = M'.map fun p => (.int .i64 p.1, p.2)) : MapV es' clock M' := by
  have hbo : es'.toList.map (·.born) = es.toList.map (·.born) := by rw [hes]; exact set_bornV he hb
  refine ⟨hkv, ?_, by rw [hbo]; exact h.nodup⟩
  intro x hx
  have : x.born ∈ es'.toList.map (·.born) := List.mem_map.2 ⟨x, hx, rfl⟩
  rw [hbo] at this
  obtain ⟨y, hy, hyx⟩ := List.mem_map.1 this
  rw [← hyx]; exact h.born y hy

section
variable {z : Value} {P : Program} {D : Nat → Prop} {W w : World} {L : List Item}
theorem run_lookup_V {t k e : TypeId} (ht : P.underlying t = some (.map k e)) (hk : P.underlying k = some (.int .i64)) (he : ∀ w, (zeroValue e).run P w = .ok z w) {b : Nat} {es : Array MapEntry} {clock : Nat} (hb : w.heap[b]? = some (.map es clock)) {M : List (Int × Value)} (hM : MapV es clock M) (x : Int) :
    (Instr.lookup t (.map (some b)) (.int .i64 x) false).run P w = .ok ((getV x M).getD z) w ∧ (Instr.lookup t (.map (some b)) (.int .i64 x) true).run P w = .ok (.tuple #[(getV x M).getD z, .bool (getV x M).isSome]) w := by
  unfold Instr.lookup
  rcases findNow_V x es.toList M 0 hM.kv with ⟨h1, h2, h3⟩ | ⟨v, j, e', h1, hj, hkey, h2, h3⟩
  · constructor
    · simp [run_underlying ht, MapKept.run_getObj_map hb, MapKept.run_checkKey (k := .int .i64 x) hk rfl es.isEmpty 9999, MapKept.run_findKey (k := .int .i64 x) hk h2, he, h1]
    · simp [run_underlying ht, MapKept.run_getObj_map hb, MapKept.run_checkKey (k := .int .i64 x) hk rfl es.isEmpty 9999, MapKept.run_findKey (k := .int .i64 x) hk h2, he, h1]
  · constructor
    · simp [run_underlying ht, MapKept.run_getObj_map hb, MapKept.run_checkKey (k := .int .i64 x) hk rfl es.isEmpty 9999, MapKept.run_findKey (k := .int .i64 x) hk h2, he, h1]
    · simp [run_underlying ht, MapKept.run_getObj_map hb, MapKept.run_checkKey (k := .int .i64 x) hk rfl es.isEmpty 9999, MapKept.run_findKey (k := .int .i64 x) hk h2, he, h1]
theorem run_update_V {t k e : TypeId} (ht : P.underlying t = some (.map k e)) (hk : P.underlying k = some (.int .i64)) {b : Nat} {es : Array MapEntry} {clock : Nat} (hb : w.heap[b]? = some (.map es clock)) {M : List (Int × Value)} (hM : MapV es clock M) (x : Int) (u : Value) :
    ∃ es' clock', MapV es' clock' (putV x u M) ∧ (Instr.mapUpdate t (.map (some b)) (.int .i64 x) (u)).run P w = .ok () { w with heap := w.heap.setIfInBounds b (.map es' clock') } := by
  unfold Instr.mapUpdate
  rcases findNow_V x es.toList M 0 hM.kv with ⟨h1, h2, h3⟩ | ⟨v, j, e', h1, hj, hkey, h2, h3⟩
  · refine ⟨_, _, by rw [h3]; exact hM.push x u, ?_⟩
    simp [run_underlying ht, MapKept.run_getObj_map hb, MapKept.run_checkKey (k := .int .i64 x) hk rfl false 9999, MapKept.run_findKey (k := .int .i64 x) hk h2, MapKept.run_setObj_map _ hb]
  · have hj' : es[j]? = some e' := by simpa using hj
    have hset : (es.modify j fun e => { e with key := .int .i64 x, val := u }).toList = es.toList.set j { key := .int .i64 x, val := u, born := e'.born } := by
      rw [Array.toList_modify]
      apply List.ext_getElem?
      intro i
      rw [List.getElem?_modify, List.getElem?_set]
      by_cases hij : j = i
      · subst hij
        have hl := (List.getElem?_eq_some_iff.1 hj).1
        simp only [Array.length_toList] at hl
        simp [hj, hl]
        rw [show es[j] = e' from (List.getElem?_eq_some_iff.1 hj).2]
      · simp [hij]
    refine ⟨_, _, hM.turn hj (e' := { key := .int .i64 x, val := u, born := e'.born }) rfl hset (by rw [hset]; exact h3 u), ?_⟩
    have hkeep : (Instr.keyThatStays (.int .i64 x) (.int .i64 x)).run P w = .ok (.int .i64 x) w := MapKept.run_keyThatStays (d := .int .i64) rfl
    simp [run_underlying ht, MapKept.run_getObj_map hb, MapKept.run_checkKey (k := .int .i64 x) hk rfl false 9999, MapKept.run_findKey (k := .int .i64 x) hk h2, hj', hkey, hkeep, MapKept.run_setObj_map _ hb]
theorem run_mkMapV (t : TypeId) (w : World) : (Instr.makeMap t none).run P w = .ok (.map (some w.heap.size)) (w.alloc (.map #[] 0)) := rfl
/-- An object of one's own turns. -/
theorem HS.objToV (h : HS D W L w) (i : Nat) {b : Nat} {o : Obj} (hi : L[i]? = some (.obj b o)) (o' : Obj) : HS D W (L.set i (.obj b o')) { w with heap := w.heap.setIfInBounds b o' } := by
  rw [set_at _ hi]
  rw [split_at hi] at h
  have hb : w.heap[b]? = some o := h.ok (.obj b o) (by simp)
  obtain ⟨h1, h2⟩ := MapKept.heap_set (o' := o') hb
  exact h.swap (X := .obj b o) (Y := .obj b o') rfl rfl rfl (by simp) (fun k hk hn => h2 k hn) h1 (fun k hk => .inl hk) (.inr rfl)

theorem wpList_lookup_V {ops : Array Oper} {rest : List Oper} {o : Oper} {a : Act} {Q : Exit → Act → World → Prop} (hgd : o.guard = none) (m x : Operand) {t k e : TypeId} (ho : o.op = .lookup t m x false)
    (ht : P.underlying t = some (.map k e)) (hk : P.underlying k = some (.int .i64)) (he : ∀ w, (zeroValue e).run P w = .ok z w) (H : HS D W L w) (i : Nat) {b : Nat} {es : Array MapEntry} {clock : Nat} (hi : L[i]? = some (.obj b (.map es clock))) {M : List (Int × Value)} (hM : MapV es clock M)
    (hm : a.eval m = .map (some b)) {n : Int} (hx : a.eval x = .int .i64 n) (h : wpList P ops Q rest (a.put o.dst ((getV n M).getD z)) w) : wpList P ops Q (o :: rest) a w :=
  wpList_plain hgd fun K hK => by
    have hr := (run_lookup_V ht hk he (H.at i hi) hM n).1
    unfold Oper.wp execOp
    simp only [ho, hm, hx, Sem.run_bind, hr, Result.andThen_ok, Sem.run_pure]
    exact hK _ _ h
theorem wpList_lookupOk_V {ops : Array Oper} {rest : List Oper} {o : Oper} {a : Act} {Q : Exit → Act → World → Prop} (hgd : o.guard = none) (m x : Operand) {t k e : TypeId} (ho : o.op = .lookup t m x true)
    (ht : P.underlying t = some (.map k e)) (hk : P.underlying k = some (.int .i64)) (he : ∀ w, (zeroValue e).run P w = .ok z w) {b : Nat} {es : Array MapEntry} {clock : Nat} (hb : w.heap[b]? = some (.map es clock)) {M : List (Int × Value)} (hM : MapV es clock M)
    (hm : a.eval m = .map (some b)) {n : Int} (hx : a.eval x = .int .i64 n) (h : wpList P ops Q rest (a.put o.dst (.tuple #[(getV n M).getD z, .bool (getV n M).isSome])) w) : wpList P ops Q (o :: rest) a w :=
  wpList_plain hgd fun K hK => by
    have hr := (run_lookup_V ht hk he hb hM n).2
    unfold Oper.wp execOp
    simp only [ho, hm, hx, Sem.run_bind, hr, Result.andThen_ok, Sem.run_pure]
    exact hK _ _ h
theorem wpList_lookupOk_yes {ops : Array Oper} {rest : List Oper} {o : Oper} {a : Act} {Q : Exit → Act → World → Prop} (hgd : o.guard = none) (m x : Operand) {t k e : TypeId} (ho : o.op = .lookup t m x true)
    (ht : P.underlying t = some (.map k e)) (hk : P.underlying k = some (.int .i64)) (he : ∀ w, (zeroValue e).run P w = .ok z w) {b : Nat} {es : Array MapEntry} {clock : Nat} (hb : w.heap[b]? = some (.map es clock)) {M : List (Int × Value)} (hM : MapV es clock M)
    (hm : a.eval m = .map (some b)) {n : Int} {u : Value} (hx : a.eval x = .int .i64 n) (hg : getV n M = some u) (h : wpList P ops Q rest (a.put o.dst (.tuple #[u, .bool true])) w) : wpList P ops Q (o :: rest) a w :=
  wpList_lookupOk_V hgd m x ho ht hk he hb hM hm hx (by rw [hg]; exact h)
theorem wpList_lookupOk_no {ops : Array Oper} {rest : List Oper} {o : Oper} {a : Act} {Q : Exit → Act → World → Prop} (hgd : o.guard = none) (m x : Operand) {t k e : TypeId} (ho : o.op = .lookup t m x true)
    (ht : P.underlying t = some (.map k e)) (hk : P.underlying k = some (.int .i64)) (he : ∀ w, (zeroValue e).run P w = .ok z w) {b : Nat} {es : Array MapEntry} {clock : Nat} (hb : w.heap[b]? = some (.map es clock)) {M : List (Int × Value)} (hM : MapV es clock M)
    (hm : a.eval m = .map (some b)) {n : Int} (hx : a.eval x = .int .i64 n) (hg : getV n M = none) (h : wpList P ops Q rest (a.put o.dst (.tuple #[z, .bool false])) w) : wpList P ops Q (o :: rest) a w :=
  wpList_lookupOk_V hgd m x ho ht hk he hb hM hm hx (by rw [hg]; exact h)
theorem wpList_update_V {ops : Array Oper} {rest : List Oper} {o : Oper} {a : Act} {Q : Exit → Act → World → Prop} (hgd : o.guard = none) (m x y : Operand) {t k e : TypeId} (ho : o.op = .mapUpdate t m x y)
    (ht : P.underlying t = some (.map k e)) (hk : P.underlying k = some (.int .i64)) (H : HS D W L w) (i : Nat) {b : Nat} {es : Array MapEntry} {clock : Nat} (hi : L[i]? = some (.obj b (.map es clock))) {M : List (Int × Value)} (hM : MapV es clock M)
    (hm : a.eval m = .map (some b)) {n : Int} {u : Value} (hx : a.eval x = .int .i64 n) (hy : a.eval y = u)
    (h : ∀ w' es' clock', MapV es' clock' (putV n u M) → HS D W (L.set i (.obj b (.map es' clock'))) w' → wpList P ops Q rest (a.put o.dst undef) w') : wpList P ops Q (o :: rest) a w :=
  wpList_plain hgd fun K hK => by
    obtain ⟨es', clock', hM', hr⟩ := run_update_V (e := e) ht hk (H.at i hi) hM n u
    unfold Oper.wp execOp
    simp only [ho, hm, hx, hy, Sem.run_bind, hr, Result.andThen_ok, Sem.run_pure]
    exact hK _ _ (h _ _ _ hM' (H.objToV i hi _))
end
end Go.Proofs.YtedbpmckgiifpaaGreat

/- Ranging over a map from int to values of one's own. -/
namespace Go.Proofs.YtedbpmckgiifpaaGreat
set_option linter.unusedSimpArgs false
set_option linter.unusedVariables false
open Go.RowKit
open Go.ChangeMaps (setBlock)

section
variable {P : Program} {D : Nat → Prop} {W w : World} {L : List Item} {ops : Array Oper} {rest : List Oper} {o : Oper} {a : Act} {Q : Exit → Act → World → Prop}
theorem wpList_range_V (hg : o.guard = none) (m : Operand) (t : TypeId) (hop : o.op = Op.range t m) {k e : TypeId} (ht : P.underlying t = some (.map k e)) (H : HS D W L w) (i : Nat) {b : Nat} {es : Array MapEntry} {clock : Nat} (hi : L[i]? = some (.obj b (.map es clock)))
    (hm : a.eval m = .map (some b)) (h : HS D W (L ++ [.obj w.heap.size (.mapIter (some b) clock #[] clock)]) (w.alloc (.mapIter (some b) clock #[] clock)) → wpList P ops Q rest (a.put o.dst (.pointer (some ⟨w.heap.size, 0, none⟩))) (w.alloc (.mapIter (some b) clock #[] clock))) : wpList P ops Q (o :: rest) a w := by
  refine wpList_plain hg fun K' hK' => ?_
  have hrun := run_range_map (P := P) w t k e b es clock ht (H.at i hi)
  unfold Oper.wp
  simp [execOp, hop, hm, hrun, Result.andThen]
  exact hK' _ _ (h H.allocObj)
/-- How many entries are left. -/
def leftV (es : Array MapEntry) (seen : Array Nat) : Nat := (leftOf es seen).size
theorem leftV_push {es : Array MapEntry} {seen : Array Nat} {e : MapEntry} (he : e ∈ (leftOf es seen).toList) : leftV es (seen.push e.born) < leftV es seen := by
  have hs : ∀ sn, leftV es sn = (es.toList.filter fun x => !sn.contains x.born).length := fun sn => by
    unfold leftV leftOf; rw [← Array.toList_filter, Array.length_toList]
  rw [hs, hs]
  unfold leftOf at he
  rw [Array.toList_filter, List.mem_filter] at he
  refine filter_lt (fun x => !seen.contains x.born) (fun x => !(seen.push e.born).contains x.born) ?_ e he.2 ?_ es.toList he.1
  · intro x hx
    simp only [Array.contains_push, Bool.not_or, Bool.and_eq_true] at hx
    first | exact hx.1 | exact hx.2
  · simp
theorem wpList_next_V (hg : o.guard = none) (it : Operand) (hop : o.op = Op.next it false) (H : HS D W L w) (i j : Nat) {bm r : Nat} {es : Array MapEntry} {clock : Nat} {seen : Array Nat} {M : List (Int × Value)} (hM : MapV es clock M)
    (hi : L[i]? = some (.obj bm (.map es clock))) (hj : L[j]? = some (.obj r (.mapIter (some bm) clock seen clock))) (hij : (L.set j (.obj r (.mapIter (some bm) clock seen clock)))[i]? = some (.obj bm (.map es clock))) (hit : a.eval it = .pointer (some ⟨r, 0, none⟩)) (hne : i ≠ j)
    (hDone : (∀ e ∈ es.toList, seen.contains e.born = true) → wpList P ops Q rest (a.put o.dst (.tuple #[.bool false])) w)
    (hMore : ∀ (x : Int) (v : Value) (e : MapEntry) (w' : World), e ∈ es.toList → e.key = .int .i64 x → e.val = v → (x, v) ∈ M → leftV es (seen.push e.born) < leftV es seen →
      HS D W (L.set j (.obj r (.mapIter (some bm) clock (seen.push e.born) clock))) w' → (Instr.entry (.pointer (some ⟨r, 0, none⟩))).run P w' = .ok (.tuple #[.int .i64 x, v]) w' → wpList P ops Q rest (a.put o.dst (.tuple #[.bool true, .int .i64 x, v])) w') :
    wpList P ops Q (o :: rest) a w := by
  refine wpList_plain hg fun K' hK' => ?_
  unfold Oper.wp
  have hr : w.heap[r]? = some (.mapIter (some bm) clock seen clock) := H.at j hj
  have hb : w.heap[bm]? = some (.map es clock) := H.at i hi
  rcases run_next_at (P := P) w o.type r bm clock clock seen es clock hr hb hM.born (Nat.le_refl _) with ⟨h0, hrun⟩ | ⟨e, he, w1, hw1, hrun⟩
  · simp [execOp, hop, hit, hrun, Result.andThen]
    refine hK' _ _ (hDone fun e he => ?_)
    refine Decidable.byContradiction fun hc => ?_
    have : e ∈ leftOf es seen := by
      unfold leftOf
      rw [Array.mem_filter]
      exact ⟨by simpa using he, by simpa using hc⟩
    have h1 := Array.size_pos_of_mem this
    omega
  · have hel : e ∈ es.toList := by
      unfold leftOf at he
      rw [Array.toList_filter, List.mem_filter] at he
      exact he.1
    have hp : (e.key, e.val) ∈ M.map fun p => (Value.int .i64 p.1, p.2) := by
      rw [← hM.kv]; exact List.mem_map.2 ⟨e, hel, rfl⟩
    obtain ⟨p, hpM, hpe⟩ := List.mem_map.1 hp
    obtain ⟨x, v⟩ := p
    simp only [Prod.mk.injEq] at hpe
    have H1 : HS D W L w1 := by rcases hw1 with rfl | rfl; exact H; exact H.drew
    have H2 := H1.objToV j hj (.mapIter (some bm) clock (seen.push e.born) clock)
    have hb2 := H2.at i (A := .obj bm (.map es clock)) (by rw [List.getElem?_set_ne (Ne.symm hne)]; exact hi)
    have hj2 := H2.at j (A := .obj r (.mapIter (some bm) clock (seen.push e.born) clock)) (by rw [List.getElem?_set_self (List.getElem?_eq_some_iff.1 hj).1])
    have hen := run_entry_at (P := P) _ r bm clock seen es clock e hj2 hb2 hel hM.nodup
    simp [execOp, hop, hit, hrun, Result.andThen]
    rw [← hpe.1, ← hpe.2]
    exact hK' _ _ (hMore x v e _ hel hpe.1.symm hpe.2.symm hpM (leftV_push he) H2 (by rw [hpe.1, hpe.2]; exact hen))
end
/-- 'k, v' of the round. -/
theorem wpList_entry_V {P : Program} {w : World} {ops : Array Oper} {rest : List Oper} {o : Oper} {a : Act} {Q : Exit → Act → World → Prop} (hgd : o.guard = none) (m : Operand) (ho : o.op = .entry m) {p v : Value} (hm : a.eval m = p) (hr : (Instr.entry p).run P w = .ok v w) (h : wpList P ops Q rest (a.put o.dst v) w) : wpList P ops Q (o :: rest) a w :=
  wpList_plain hgd fun K hK => by
    unfold Oper.wp execOp
    simp only [ho, hm, Sem.run_bind, hr, Result.andThen_ok, Sem.run_pure]
    exact hK _ _ h
/-- How much of a map is still to come. -/
def itLeftV (es : Array MapEntry) (r : Nat) (w : World) : Nat := match w.heap[r]? with
  | some (.mapIter _ _ seen _) => leftV es seen
  | _ => 0
theorem itLeftV_of {es : Array MapEntry} {r : Nat} {w : World} {m : Option Nat} {c k : Nat} {seen : Array Nat} (h : w.heap[r]? = some (.mapIter m c seen k)) : itLeftV es r w = leftV es seen := by unfold itLeftV; rw [h]
theorem born_injV {x y : MapEntry} : ∀ {l : List MapEntry}, (l.map (·.born)).Nodup → x ∈ l → y ∈ l → x.born = y.born → x = y
  | [], _, hx, _, _ => absurd hx (by simp)
  | z :: l, hn, hx, hy, e => by
    simp only [List.map_cons, List.nodup_cons] at hn
    rcases List.mem_cons.1 hx with h1 | h1
    · rcases List.mem_cons.1 hy with h2 | h2
      · rw [h1, h2]
      · exact absurd (List.mem_map.2 ⟨y, h2, by rw [← e, h1]⟩) hn.1
    · rcases List.mem_cons.1 hy with h2 | h2
      · exact absurd (List.mem_map.2 ⟨x, h1, by rw [e, h2]⟩) hn.1
      · exact born_injV hn.2 h1 h2 e
theorem MapV.val_of {es : Array MapEntry} {clock : Nat} {M : List (Int × Value)} (h : MapV es clock M) {x : Int} {v : Value} (hm : (x, v) ∈ M) : ∃ e ∈ es.toList, e.key = .int .i64 x ∧ e.val = v := by
  have : (Value.int .i64 x, v) ∈ M.map fun p => (Value.int .i64 p.1, p.2) := List.mem_map.2 ⟨_, hm, rfl⟩
  rw [← h.kv] at this
  obtain ⟨e, he, hp⟩ := List.mem_map.1 this
  injection hp with h1 h2
  exact ⟨e, he, h1, h2⟩
/-- The key of each entry that has come is of the kind. -/
def SeenV (p : Int → Prop) (es : Array MapEntry) (seen : Array Nat) : Prop := ∀ e ∈ es.toList, seen.contains e.born = true → ∀ x, e.key = .int .i64 x → p x
theorem SeenV.nil (p : Int → Prop) (es : Array MapEntry) : SeenV p es #[] := fun e _ h => by simp at h
theorem SeenV.push {p : Int → Prop} {es : Array MapEntry} {seen : Array Nat} {clock : Nat} {M : List (Int × Value)} (h : SeenV p es seen) (hM : MapV es clock M) {e : MapEntry} (he : e ∈ es.toList) {x : Int} (hv : e.key = .int .i64 x) (hp : p x) : SeenV p es (seen.push e.born) := fun y hy hc u hu => by
  rw [Array.contains_push, Bool.or_eq_true] at hc
  rcases hc with hc | hc
  · first
    | exact h y hy hc u hu
    | (have := born_injV hM.nodup hy he (by simpa using hc); subst this; rw [hv] at hu; injection hu with _ hu; rw [← hu]; exact hp)
  · first
    | exact h y hy hc u hu
    | (have := born_injV hM.nodup hy he (by simpa using hc); subst this; rw [hv] at hu; injection hu with _ hu; rw [← hu]; exact hp)
theorem SeenV.all {p : Int → Prop} {es : Array MapEntry} {seen : Array Nat} {clock : Nat} {M : List (Int × Value)} (h : SeenV p es seen) (hM : MapV es clock M) (hd : ∀ e ∈ es.toList, seen.contains e.born = true) : ∀ x v, (x, v) ∈ M → p x := fun x v hm => by
  obtain ⟨e, he, hk, _⟩ := hM.val_of hm
  exact h e he (hd e he) x hk
end Go.Proofs.YtedbpmckgiifpaaGreat

/- A map from frames to lists of pages: plain words. -/
namespace Go.Proofs.YtedbpmckgiifpaaGreat
set_option linter.unusedSimpArgs false
set_option linter.unusedVariables false

/-- What such a map holds. -/
structure Fv where
  f : Int
  l : List Pg
  v : Value
deriving Inhabited
structure QOk (qs : List Fv) (A : List Pg) : Prop where
  nodup : (qs.map (·.f)).Nodup
  each : ∀ q ∈ qs, q.l = ofFr q.f A
  all : ∀ x ∈ A, ∃ q ∈ qs, q.f = x.f
theorem QOk.nil : QOk [] [] := ⟨List.nodup_nil, fun q hq => absurd hq List.not_mem_nil, fun q hq => absurd hq List.not_mem_nil⟩
def mapOf (qs : List Fv) : List (Int × Value) := qs.map fun q => (q.f, q.v)
theorem getV_mapOf (x : Int) : ∀ (qs : List Fv), (getV x (mapOf qs) = none ∧ (∀ q ∈ qs, q.f ≠ x) ∧ ∀ v, putV x v (mapOf qs) = mapOf qs ++ [(x, v)]) ∨
    ∃ a q b, qs = a ++ q :: b ∧ q.f = x ∧ getV x (mapOf qs) = some q.v ∧ ∀ l v, putV x v (mapOf qs) = mapOf (a ++ ⟨q.f, l, v⟩ :: b)
  | [] => .inl ⟨rfl, fun q hq => absurd hq List.not_mem_nil, fun _ => rfl⟩
  | q :: qs => by
    by_cases e : x = q.f
    · exact .inr ⟨[], q, qs, rfl, e.symm, by simp [mapOf, getV, e], fun l v => by simp [mapOf, putV, e]⟩
    · rcases getV_mapOf x qs with ⟨h1, h2, h3⟩ | ⟨a, q', b, rfl, h1, h2, h3⟩
      · refine .inl ⟨by simpa [mapOf, getV, e] using h1, fun y hy => ?_, fun v => by simpa [mapOf, putV, e] using h3 v⟩
        rcases List.mem_cons.1 hy with rfl | hy
        · exact fun e' => e e'.symm
        · exact h2 y hy
      · exact .inr ⟨q :: a, q', b, rfl, h1, by simpa [mapOf, getV, e] using h2, fun l v => by simpa [mapOf, putV, e] using h3 l v⟩
theorem ofFr_snoc (f : Int) (A : List Pg) (x : Pg) : ofFr f (A ++ [x]) = if x.f = f then ofFr f A ++ [x] else ofFr f A := by
  rw [ofFr_app]
  by_cases e : x.f = f
  · simp [ofFr, e]
  · simp [ofFr, e]
theorem QOk.step {qs : List Fv} {A : List Pg} (h : QOk qs A) (x : Pg) :
    (getV x.f (mapOf qs) = none ∧ ∀ v, QOk (qs ++ [⟨x.f, [x], v⟩]) (A ++ [x]) ∧ mapOf (qs ++ [⟨x.f, [x], v⟩]) = putV x.f v (mapOf qs)) ∨
    ∃ a q b, qs = a ++ q :: b ∧ getV x.f (mapOf qs) = some q.v ∧ ∀ v, QOk (a ++ ⟨q.f, q.l ++ [x], v⟩ :: b) (A ++ [x]) ∧ mapOf (a ++ ⟨q.f, q.l ++ [x], v⟩ :: b) = putV x.f v (mapOf qs) := by
  rcases getV_mapOf x.f qs with ⟨h1, h2, h3⟩ | ⟨a, q, b, rfl, hq, h1, h3⟩
  · refine .inl ⟨h1, fun v => ⟨⟨?_, fun q hq => ?_, fun y hy => ?_⟩, by rw [h3]; simp [mapOf]⟩⟩
    · rw [List.map_append, List.nodup_append]
      refine ⟨h.nodup, by simp, fun a ha b hb => ?_⟩
      obtain ⟨q, hq, rfl⟩ := List.mem_map.1 ha
      simp only [List.map_cons, List.map_nil, List.mem_singleton] at hb
      subst hb
      exact h2 q hq
    · rw [ofFr_snoc]
      rcases List.mem_append.1 hq with hq | hq
      · rw [if_neg (fun e => h2 q hq e.symm)]; exact h.each q hq
      · cases List.mem_singleton.1 hq
        have : ofFr x.f A = [] := by
          unfold ofFr
          rw [List.filter_eq_nil_iff]
          intro y hy hyf
          obtain ⟨q, hq, hqf⟩ := h.all y hy
          exact h2 q hq (hqf.trans (of_decide_eq_true hyf))
        dsimp only
        rw [if_pos rfl, this]; rfl
    · rcases List.mem_append.1 hy with hy | hy
      · obtain ⟨q, hq, hqf⟩ := h.all y hy
        exact ⟨q, by simp [hq], hqf⟩
      · cases List.mem_singleton.1 hy
        exact ⟨_, List.mem_append_right _ (List.mem_singleton.2 rfl), rfl⟩
  · refine .inr ⟨a, q, b, rfl, h1, fun v => ⟨⟨?_, fun p hp => ?_, fun y hy => ?_⟩, (h3 _ v).symm⟩⟩
    · have := h.nodup
      simpa using this
    · have hn := h.nodup
      rw [List.map_append, List.map_cons, List.nodup_append, List.nodup_cons] at hn
      obtain ⟨hn1, ⟨hn2, hn3⟩, hn4⟩ := hn
      rw [ofFr_snoc]
      rcases List.mem_append.1 hp with hp | hp
      · rw [if_neg (fun e => hn4 p.f (List.mem_map.2 ⟨p, hp, rfl⟩) q.f (by simp) (by rw [← e, hq]))]
        exact h.each p (by simp [hp])
      · rcases List.mem_cons.1 hp with rfl | hp
        · dsimp only
          rw [if_pos hq.symm, h.each q (by simp)]
        · rw [if_neg (fun e => hn2 (List.mem_map.2 ⟨p, hp, by rw [← e, hq]⟩))]
          exact h.each p (by simp [hp])
    · rcases List.mem_append.1 hy with hy | hy
      · obtain ⟨p, hp, hpf⟩ := h.all y hy
        rcases List.mem_append.1 hp with hp | hp
        · exact ⟨p, by simp [hp], hpf⟩
        · rcases List.mem_cons.1 hp with rfl | hp
          · exact ⟨⟨p.f, p.l ++ [x], v⟩, by simp, hpf⟩
          · exact ⟨p, by simp [hp], hpf⟩
      · cases List.mem_singleton.1 hy
        exact ⟨⟨q.f, q.l ++ [x], v⟩, List.mem_append_right _ (List.mem_cons_self), hq⟩
theorem QOk.fr {qs : List Fv} {A : List Pg} (h : QOk qs A) : (∀ f, FrOk (ofFr f A)) ↔ ∀ q ∈ qs, FrOk q.l := by
  constructor
  · intro g q hq
    rw [h.each q hq]; exact g q.f
  · intro g f hl x hx
    obtain ⟨hx1, hx2⟩ := mem_ofFr.1 hx
    obtain ⟨q, hq, hqf⟩ := h.all x hx1
    have h1 := g q hq
    rw [h.each q hq, hqf, hx2] at h1
    exact h1 hl x hx
theorem mem_mapOf {qs : List Fv} {x : Int} {v : Value} (h : (x, v) ∈ mapOf qs) : ∃ q ∈ qs, q.f = x ∧ q.v = v := by
  obtain ⟨q, hq, e⟩ := List.mem_map.1 h
  injection e with e1 e2
  exact ⟨q, hq, e1, e2⟩
theorem mapOf_mem {qs : List Fv} {q : Fv} (h : q ∈ qs) : (q.f, q.v) ∈ mapOf qs := List.mem_map.2 ⟨q, h, rfl⟩
theorem QOk.same {qs : List Fv} {A : List Pg} (h : QOk qs A) {p q : Fv} (hp : p ∈ qs) (hq : q ∈ qs) (e : p.f = q.f) : p.l = q.l := by rw [h.each p hp, h.each q hq, e]
theorem FrOk.iff (l : List Pg) : FrOk l ↔ ¬ (1 < l.length ∧ l.any (fun x => !x.s) = true) := by
  unfold FrOk
  rw [List.any_eq_true]
  constructor
  · rintro h ⟨h1, x, hx, h2⟩
    rw [h h1 x hx] at h2; cases h2
  · intro h h1 x hx
    cases e : x.s with
    | true => rfl
    | false => exact absurd ⟨h1, x, hx, by rw [e]; rfl⟩ h
end Go.Proofs.YtedbpmckgiifpaaGreat
