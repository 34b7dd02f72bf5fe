/- A map[int]byte of one's own: asking it (with and without ok), putting into it, its length, ranging over it. -/
import Derived.Test.YtaeockopliplfaaDoorOwn
import Derived.MapKept
import Derived.Maps.RangeRun
namespace Go.Proofs.YtaeockopliplfaaDoor
set_option linter.unusedSimpArgs false
set_option linter.unusedVariables false
open Go.RowKit
open Go.ChangeMaps (setBlock)

/-- The map's entries: the keys and what stands at each; stamps below the clock, each its own. -/
structure MapI (es : Array MapEntry) (clock : Nat) (M : List (Int × Int)) : Prop where
  kv : es.toList.map (fun e => (e.key, e.val)) = M.map fun p => (.int .i64 p.1, .int .u8 p.2)
  born : ∀ e ∈ es.toList, e.born < clock
  nodup : (es.toList.map (·.born)).Nodup
/-- What stands at a key. -/
def getI (x : Int) : List (Int × Int) → Option Int
  | [] => none
  | p :: M => if x = p.1 then some p.2 else getI x M
def putI (x v : Int) : List (Int × Int) → List (Int × Int)
  | [] => [(x, v)]
  | p :: M => if x = p.1 then (p.1, v) :: M else p :: putI x v M
theorem MapI.nil : MapI #[] 0 [] := ⟨rfl, fun e h => (List.not_mem_nil h).elim, List.nodup_nil⟩
theorem findNow_I (x : Int) : ∀ (l : List MapEntry) (M : List (Int × Int)) (i : Nat), l.map (fun e => (e.key, e.val)) = M.map (fun p => (Value.int .i64 p.1, Value.int .u8 p.2)) →
    (getI x M = none ∧ Instr.findNow (.int .i64) (.int .i64 x) l i = some none ∧ ∀ v, putI x v M = M ++ [(x, v)]) ∨
    (∃ v j e, getI x M = some v ∧ l[j]? = some e ∧ e.key = .int .i64 x ∧ Instr.findNow (.int .i64) (.int .i64 x) l i = some (some (i + j, .int .u8 v)) ∧
      ∀ u, (l.set j { key := .int .i64 x, val := .int .u8 u, born := e.born }).map (fun e => (e.key, e.val)) = (putI x u M).map (fun p => (Value.int .i64 p.1, Value.int .u8 p.2)))
  | [], M, i, hk => by
    cases M with
    | nil => exact .inl ⟨rfl, rfl, fun _ => rfl⟩
    | cons => simp at hk
  | e :: l, M, i, hk => by
    cases M with
    | nil => simp at hk
    | cons s M =>
      simp only [List.map_cons, List.cons.injEq, Prod.mk.injEq] at hk
      by_cases hx : x = s.1
      · refine .inr ⟨s.2, 0, e, ?_, rfl, by rw [hk.1.1, hx], ?_, fun u => ?_⟩
        · simp [getI, hx]
        · simp [Instr.findNow, hk.1.1, Instr.sameNow, hx, hk.1.2]
        · simp [putI, hx, hk.2]
      · have hxs : (x == s.1) = false := by simpa using hx
        rcases findNow_I x l M (i + 1) hk.2 with ⟨h1, h2, h3⟩ | ⟨v, j, e', h1, hj, hkey, h2, h3⟩
        · exact .inl ⟨by simp [getI, hx, h1], by simp [Instr.findNow, hk.1.1, Instr.sameNow, hxs, h2], fun v => by simp [putI, hx, h3]⟩
        · refine .inr ⟨v, j + 1, e', by simp [getI, hx, h1], by simpa using hj, hkey, ?_, fun u => ?_⟩
          · simp only [Instr.findNow, hk.1.1, Instr.sameNow, hxs, h2]
            simp; omega
          · simp [putI, hx, hk.1, h3 u]
theorem set_born {l : List MapEntry} {j : Nat} {e e' : MapEntry} (he : l[j]? = some e) (hb : e'.born = e.born) : (l.set j e').map (·.born) = l.map (·.born) := by
  rw [List.map_set]
  apply List.ext_getElem?
  intro i
  rw [List.getElem?_set]
  by_cases hij : j = i
  · subst hij
    have hl := (List.getElem?_eq_some_iff.1 he).1
    have he2 : l[j] = e := (List.getElem?_eq_some_iff.1 he).2
    simp [he, hb, hl, he2]
  · simp [hij]
/-- A push, or a value put in place. -/
theorem MapI.push {es : Array MapEntry} {clock : Nat} {M : List (Int × Int)} (h : MapI es clock M) (x v : Int) : MapI (es.push { key := .int .i64 x, val := .int .u8 v, born := clock }) (clock + 1) (M ++ [(x, v)]) := by
  refine ⟨by simp [h.kv], ?_, ?_⟩
  · intro e he'
    rw [Array.toList_push, List.mem_append] at he'
    rcases he' with he' | he'
    · have := h.born e he'; omega
    · rw [List.mem_singleton.1 he']; show clock < clock + 1; omega
  · rw [Array.toList_push, List.map_append, List.nodup_append]
    refine ⟨h.nodup, by simp, ?_⟩
    intro a ha b hb'
    obtain ⟨e, he', rfl⟩ := List.mem_map.1 ha
    simp at hb'
    have := h.born e he'
    omega
theorem MapI.turn {es es' : Array MapEntry} {clock : Nat} {M M' : List (Int × Int)} (h : MapI es clock M) {j : Nat} {e e' : MapEntry} (he : es.toList[j]? = some e) (hb : e'.born = e.born) (hes : es'.toList = es.toList.set j e')
    (hkv : es'.toList.map (fun e => (e.key, e.val)) = M'.map fun p => (.int .i64 p.1, .int .u8 p.2)) : MapI es' clock M' := by
  have hbo : es'.toList.map (·.born) = es.toList.map (·.born) := by rw [hes]; exact set_born he hb
  refine ⟨hkv, ?_, by rw [hbo]; exact h.nodup⟩
  intro x hx
  have : x.born ∈ es'.toList.map (·.born) := List.mem_map.2 ⟨x, hx, rfl⟩
  rw [hbo] at this
  obtain ⟨y, hy, hyx⟩ := List.mem_map.1 this
  rw [← hyx]; exact h.born y hy

section
variable {P : Program} {D : Nat → Prop} {W w : World} {L : List Item}
theorem run_lookup_I {t k e : TypeId} (ht : P.underlying t = some (.map k e)) (hk : P.underlying k = some (.int .i64)) (he : ∀ w, (zeroValue e).run P w = .ok (.int .u8 0) w) {b : Nat} {es : Array MapEntry} {clock : Nat} (hb : w.heap[b]? = some (.map es clock)) {M : List (Int × Int)} (hM : MapI es clock M) (x : Int) :
    (Instr.lookup t (.map (some b)) (.int .i64 x) false).run P w = .ok (.int .u8 ((getI x M).getD 0)) w ∧ (Instr.lookup t (.map (some b)) (.int .i64 x) true).run P w = .ok (.tuple #[.int .u8 ((getI x M).getD 0), .bool (getI x M).isSome]) w := by
  unfold Instr.lookup
  rcases findNow_I x es.toList M 0 hM.kv with ⟨h1, h2, h3⟩ | ⟨v, j, e', h1, hj, hkey, h2, h3⟩
  · constructor
    · simp [run_underlying ht, MapKept.run_getObj_map hb, MapKept.run_checkKey (k := .int .i64 x) hk rfl es.isEmpty 9999, MapKept.run_findKey (k := .int .i64 x) hk h2, he, h1]
    · simp [run_underlying ht, MapKept.run_getObj_map hb, MapKept.run_checkKey (k := .int .i64 x) hk rfl es.isEmpty 9999, MapKept.run_findKey (k := .int .i64 x) hk h2, he, h1]
  · constructor
    · simp [run_underlying ht, MapKept.run_getObj_map hb, MapKept.run_checkKey (k := .int .i64 x) hk rfl es.isEmpty 9999, MapKept.run_findKey (k := .int .i64 x) hk h2, he, h1]
    · simp [run_underlying ht, MapKept.run_getObj_map hb, MapKept.run_checkKey (k := .int .i64 x) hk rfl es.isEmpty 9999, MapKept.run_findKey (k := .int .i64 x) hk h2, he, h1]
theorem run_update_I {t k e : TypeId} (ht : P.underlying t = some (.map k e)) (hk : P.underlying k = some (.int .i64)) {b : Nat} {es : Array MapEntry} {clock : Nat} (hb : w.heap[b]? = some (.map es clock)) {M : List (Int × Int)} (hM : MapI es clock M) (x u : Int) :
    ∃ es' clock', MapI es' clock' (putI x u M) ∧ (Instr.mapUpdate t (.map (some b)) (.int .i64 x) (.int .u8 u)).run P w = .ok () { w with heap := w.heap.setIfInBounds b (.map es' clock') } := by
  unfold Instr.mapUpdate
  rcases findNow_I x es.toList M 0 hM.kv with ⟨h1, h2, h3⟩ | ⟨v, j, e', h1, hj, hkey, h2, h3⟩
  · refine ⟨_, _, by rw [h3]; exact hM.push x u, ?_⟩
    simp [run_underlying ht, MapKept.run_getObj_map hb, MapKept.run_checkKey (k := .int .i64 x) hk rfl false 9999, MapKept.run_findKey (k := .int .i64 x) hk h2, MapKept.run_setObj_map _ hb]
  · have hj' : es[j]? = some e' := by simpa using hj
    have hset : (es.modify j fun e => { e with key := .int .i64 x, val := .int .u8 u }).toList = es.toList.set j { key := .int .i64 x, val := .int .u8 u, born := e'.born } := by
      rw [Array.toList_modify]
      apply List.ext_getElem?
      intro i
      rw [List.getElem?_modify, List.getElem?_set]
      by_cases hij : j = i
      · subst hij
        have hl := (List.getElem?_eq_some_iff.1 hj).1
        simp only [Array.length_toList] at hl
        simp [hj, hl]
        rw [show es[j] = e' from (List.getElem?_eq_some_iff.1 hj).2]
      · simp [hij]
    refine ⟨_, _, hM.turn hj (e' := { key := .int .i64 x, val := .int .u8 u, born := e'.born }) rfl hset (by rw [hset]; exact h3 u), ?_⟩
    have hkeep : (Instr.keyThatStays (.int .i64 x) (.int .i64 x)).run P w = .ok (.int .i64 x) w := MapKept.run_keyThatStays (d := .int .i64) rfl
    simp [run_underlying ht, MapKept.run_getObj_map hb, MapKept.run_checkKey (k := .int .i64 x) hk rfl false 9999, MapKept.run_findKey (k := .int .i64 x) hk h2, hj', hkey, hkeep, MapKept.run_setObj_map _ hb]
theorem run_mkMap' (t : TypeId) (w : World) : (Instr.makeMap t none).run P w = .ok (.map (some w.heap.size)) (w.alloc (.map #[] 0)) := rfl
/-- An object of one's own turns. -/
theorem HS.objTo (h : HS D W L w) (i : Nat) {b : Nat} {o : Obj} (hi : L[i]? = some (.obj b o)) (o' : Obj) : HS D W (L.set i (.obj b o')) { w with heap := w.heap.setIfInBounds b o' } := by
  rw [set_at _ hi]
  rw [split_at hi] at h
  have hb : w.heap[b]? = some o := h.ok (.obj b o) (by simp)
  obtain ⟨h1, h2⟩ := MapKept.heap_set (o' := o') hb
  exact h.swap (X := .obj b o) (Y := .obj b o') rfl rfl rfl (by simp) (fun k hk hn => h2 k hn) h1 (fun k hk => .inl hk) (.inr rfl)

theorem wpList_lookup_I {ops : Array Oper} {rest : List Oper} {o : Oper} {a : Act} {Q : Exit → Act → World → Prop} (hgd : o.guard = none) (m x : Operand) {t k e : TypeId} (ho : o.op = .lookup t m x false)
    (ht : P.underlying t = some (.map k e)) (hk : P.underlying k = some (.int .i64)) (he : ∀ w, (zeroValue e).run P w = .ok (.int .u8 0) w) (H : HS D W L w) (i : Nat) {b : Nat} {es : Array MapEntry} {clock : Nat} (hi : L[i]? = some (.obj b (.map es clock))) {M : List (Int × Int)} (hM : MapI es clock M)
    (hm : a.eval m = .map (some b)) {n : Int} (hx : a.eval x = .int .i64 n) (h : wpList P ops Q rest (a.put o.dst (.int .u8 ((getI n M).getD 0))) w) : wpList P ops Q (o :: rest) a w :=
  wpList_plain hgd fun K hK => by
    have hr := (run_lookup_I ht hk he (H.at i hi) hM n).1
    unfold Oper.wp execOp
    simp only [ho, hm, hx, Sem.run_bind, hr, Result.andThen_ok, Sem.run_pure]
    exact hK _ _ h
theorem wpList_lookupOk_I {ops : Array Oper} {rest : List Oper} {o : Oper} {a : Act} {Q : Exit → Act → World → Prop} (hgd : o.guard = none) (m x : Operand) {t k e : TypeId} (ho : o.op = .lookup t m x true)
    (ht : P.underlying t = some (.map k e)) (hk : P.underlying k = some (.int .i64)) (he : ∀ w, (zeroValue e).run P w = .ok (.int .u8 0) w) {b : Nat} {es : Array MapEntry} {clock : Nat} (hb : w.heap[b]? = some (.map es clock)) {M : List (Int × Int)} (hM : MapI es clock M)
    (hm : a.eval m = .map (some b)) {n : Int} (hx : a.eval x = .int .i64 n) (h : wpList P ops Q rest (a.put o.dst (.tuple #[.int .u8 ((getI n M).getD 0), .bool (getI n M).isSome])) w) : wpList P ops Q (o :: rest) a w :=
  wpList_plain hgd fun K hK => by
    have hr := (run_lookup_I ht hk he hb hM n).2
    unfold Oper.wp execOp
    simp only [ho, hm, hx, Sem.run_bind, hr, Result.andThen_ok, Sem.run_pure]
    exact hK _ _ h
theorem wpList_lookupOk_yes {ops : Array Oper} {rest : List Oper} {o : Oper} {a : Act} {Q : Exit → Act → World → Prop} (hgd : o.guard = none) (m x : Operand) {t k e : TypeId} (ho : o.op = .lookup t m x true)
    (ht : P.underlying t = some (.map k e)) (hk : P.underlying k = some (.int .i64)) (he : ∀ w, (zeroValue e).run P w = .ok (.int .u8 0) w) {b : Nat} {es : Array MapEntry} {clock : Nat} (hb : w.heap[b]? = some (.map es clock)) {M : List (Int × Int)} (hM : MapI es clock M)
    (hm : a.eval m = .map (some b)) {n u : Int} (hx : a.eval x = .int .i64 n) (hg : getI n M = some u) (h : wpList P ops Q rest (a.put o.dst (.tuple #[.int .u8 u, .bool true])) w) : wpList P ops Q (o :: rest) a w :=
  wpList_lookupOk_I hgd m x ho ht hk he hb hM hm hx (by rw [hg]; exact h)
theorem wpList_lookupOk_no {ops : Array Oper} {rest : List Oper} {o : Oper} {a : Act} {Q : Exit → Act → World → Prop} (hgd : o.guard = none) (m x : Operand) {t k e : TypeId} (ho : o.op = .lookup t m x true)
    (ht : P.underlying t = some (.map k e)) (hk : P.underlying k = some (.int .i64)) (he : ∀ w, (zeroValue e).run P w = .ok (.int .u8 0) w) {b : Nat} {es : Array MapEntry} {clock : Nat} (hb : w.heap[b]? = some (.map es clock)) {M : List (Int × Int)} (hM : MapI es clock M)
    (hm : a.eval m = .map (some b)) {n : Int} (hx : a.eval x = .int .i64 n) (hg : getI n M = none) (h : wpList P ops Q rest (a.put o.dst (.tuple #[.int .u8 0, .bool false])) w) : wpList P ops Q (o :: rest) a w :=
  wpList_lookupOk_I hgd m x ho ht hk he hb hM hm hx (by rw [hg]; exact h)
theorem wpList_update_I {ops : Array Oper} {rest : List Oper} {o : Oper} {a : Act} {Q : Exit → Act → World → Prop} (hgd : o.guard = none) (m x y : Operand) {t k e : TypeId} (ho : o.op = .mapUpdate t m x y)
    (ht : P.underlying t = some (.map k e)) (hk : P.underlying k = some (.int .i64)) (H : HS D W L w) (i : Nat) {b : Nat} {es : Array MapEntry} {clock : Nat} (hi : L[i]? = some (.obj b (.map es clock))) {M : List (Int × Int)} (hM : MapI es clock M)
    (hm : a.eval m = .map (some b)) {n u : Int} (hx : a.eval x = .int .i64 n) (hy : a.eval y = .int .u8 u)
    (h : ∀ w' es' clock', MapI es' clock' (putI n u M) → HS D W (L.set i (.obj b (.map es' clock'))) w' → wpList P ops Q rest (a.put o.dst undef) w') : wpList P ops Q (o :: rest) a w :=
  wpList_plain hgd fun K hK => by
    obtain ⟨es', clock', hM', hr⟩ := run_update_I (e := e) ht hk (H.at i hi) hM n u
    unfold Oper.wp execOp
    simp only [ho, hm, hx, hy, Sem.run_bind, hr, Result.andThen_ok, Sem.run_pure]
    exact hK _ _ (h _ _ _ hM' (H.objTo i hi _))
end
end Go.Proofs.YtaeockopliplfaaDoor
