/- A set of ints kept as a map[int]bool of one's own: making it, asking it, putting into it. -/
import Derived.Test.YtfmcicmbehjdcaaK1
import Derived.MapKept
import Derived.Laws.Tables
namespace Go.Proofs.Ytfmcicmbehjdcaa
set_option linter.unusedSimpArgs false
set_option linter.unusedVariables false
open Go.RowKit

/-- The map's entries are true at just these keys. -/
structure SetM (es : Array MapEntry) (S : List Int) : Prop where
  keys : es.toList.map (·.key) = S.map fun k => .int .i64 k
  vals : ∀ e ∈ es.toList, e.val = .bool true
theorem SetM.nil : SetM #[] [] := ⟨rfl, fun e h => by cases h⟩
theorem SetM.push {es : Array MapEntry} {S : List Int} (h : SetM es S) (x : Int) (n : Nat) : SetM (es.push { key := .int .i64 x, val := .bool true, born := n }) (S ++ [x]) :=
  ⟨by simp [h.keys], fun e he => by
    rw [Array.toList_push, List.mem_append] at he
    rcases he with he | he
    · exact h.vals e he
    · rw [List.mem_singleton.1 he]⟩
theorem findNow_set (x : Int) : ∀ (l : List MapEntry) (S : List Int) (i : Nat), l.map (·.key) = S.map (fun k => Value.int .i64 k) → (∀ e ∈ l, e.val = .bool true) →
    (x ∉ S ∧ Instr.findNow (.int .i64) (.int .i64 x) l i = some none) ∨ (x ∈ S ∧ ∃ j, Instr.findNow (.int .i64) (.int .i64 x) l i = some (some (j, .bool true)))
  | [], S, i, hk, hv => by
    cases S with
    | nil => exact .inl ⟨by simp, rfl⟩
    | cons => simp at hk
  | e :: l, S, i, hk, hv => by
    cases S with
    | nil => simp at hk
    | cons s S =>
      simp only [List.map_cons, List.cons.injEq] at hk
      by_cases hx : x = s
      · refine .inr ⟨by simp [hx], i, ?_⟩
        simp [Instr.findNow, hk.1, Instr.sameNow, hx, hv e (by simp)]
      · have hxs : (x == s) = false := by simpa using hx
        rcases findNow_set x l S (i + 1) hk.2 (fun e he => hv e (by simp [he])) with ⟨h1, h2⟩ | ⟨h1, j, h2⟩
        · exact .inl ⟨by simp [hx, h1], by simp [Instr.findNow, hk.1, Instr.sameNow, hxs, h2]⟩
        · exact .inr ⟨by simp [h1], j, by simp [Instr.findNow, hk.1, Instr.sameNow, hxs, h2]⟩

section
variable {P : Program} {D : Nat → Prop} {W w : World} {L : List Item}
theorem run_lookup_set {t k e : TypeId} (ht : P.underlying t = some (.map k e)) (hk : P.underlying k = some (.int .i64)) (he : ∀ w, (zeroValue e).run P w = .ok (.bool false) w) {b : Nat} {es : Array MapEntry} {clock : Nat} (hb : w.heap[b]? = some (.map es clock)) {S : List Int} (hS : SetM es S) (x : Int) :
    (Instr.lookup t (.map (some b)) (.int .i64 x) false).run P w = .ok (.bool (decide (x ∈ S))) w := by
  unfold Instr.lookup
  rcases findNow_set x es.toList S 0 hS.keys hS.vals with ⟨h1, h2⟩ | ⟨h1, j, h2⟩
  · simp [run_underlying ht, MapKept.run_getObj_map hb, MapKept.run_checkKey (k := .int .i64 x) hk rfl es.isEmpty 9999, MapKept.run_findKey (k := .int .i64 x) hk h2, he, h1]
  · simp [run_underlying ht, MapKept.run_getObj_map hb, MapKept.run_checkKey (k := .int .i64 x) hk rfl es.isEmpty 9999, MapKept.run_findKey (k := .int .i64 x) hk h2, h1]
theorem run_update_set {t k e : TypeId} (ht : P.underlying t = some (.map k e)) (hk : P.underlying k = some (.int .i64)) {b : Nat} {es : Array MapEntry} {clock : Nat} (hb : w.heap[b]? = some (.map es clock)) {S : List Int} (hS : SetM es S) {x : Int} (hx : x ∉ S) :
    (Instr.mapUpdate t (.map (some b)) (.int .i64 x) (.bool true)).run P w = .ok () { w with heap := w.heap.setIfInBounds b (.map (es.push { key := .int .i64 x, val := .bool true, born := clock }) (clock + 1)) } := by
  unfold Instr.mapUpdate
  rcases findNow_set x es.toList S 0 hS.keys hS.vals with ⟨h1, h2⟩ | ⟨h1, j, h2⟩
  · simp [run_underlying ht, MapKept.run_getObj_map hb, MapKept.run_checkKey (k := .int .i64 x) hk rfl false 9999, MapKept.run_findKey (k := .int .i64 x) hk h2, MapKept.run_setObj_map _ hb]
  · exact absurd h1 hx
theorem run_mkMap (t : TypeId) (w : World) : (Instr.makeMap t none).run P w = .ok (.map (some w.heap.size)) (w.alloc (.map #[] 0)) := rfl
/-- An object of one's own turns. -/
theorem HS.objAt (h : HS D W L w) (i : Nat) {b : Nat} {o : Obj} (hi : L[i]? = some (.obj b o)) (o' : Obj) : HS D W (L.set i (.obj b o')) { w with heap := w.heap.setIfInBounds b o' } := by
  rw [set_at _ hi]
  rw [split_at hi] at h
  have hb : w.heap[b]? = some o := h.ok (.obj b o) (by simp)
  obtain ⟨h1, h2⟩ := MapKept.heap_set (o' := o') hb
  exact h.swap (X := .obj b o) (Y := .obj b o') rfl rfl rfl (by simp) (fun k hk hn => h2 k hn) h1 (fun k hk => .inl hk) (.inr rfl)

/-- A whole struct stored over a block of one's own (wpList_store_row). -/
theorem HS.rowAt (h : HS D W L w) (i : Nat) {b : Nat} {cs : Array Value} {t : TypeId} (hi : L[i]? = some (.blk b cs t)) (vs : Array Value) {L' : List Item} (hL : L.set i (.blk b vs t) = L') : HS D W L' (w.setRow b vs) := by
  subst hL
  rw [set_at _ hi]
  rw [split_at hi] at h
  have hb : w.heap[b]? = some (.cells cs t (0, 0)) := h.ok (.blk b cs t) (by simp)
  exact h.swap (X := .blk b cs t) (Y := .blk b vs t) rfl rfl rfl (by simp) (fun k hk hn => setRow_other w b k vs hn) (setRow_heap w b cs vs t (0, 0) hb) (fun k hk => .inl hk) (.inr rfl)
theorem wpList_lookup_set {ops : Array Oper} {rest : List Oper} {o : Oper} {a : Act} {Q : Exit → Act → World → Prop} (hgd : o.guard = none) (m x : Operand) {t k e : TypeId} (ho : o.op = .lookup t m x false)
    (ht : P.underlying t = some (.map k e)) (hk : P.underlying k = some (.int .i64)) (he : ∀ w, (zeroValue e).run P w = .ok (.bool false) w) (H : HS D W L w) (i : Nat) {b : Nat} {es : Array MapEntry} {clock : Nat} (hi : L[i]? = some (.obj b (.map es clock))) {S : List Int} (hS : SetM es S)
    (hm : a.eval m = .map (some b)) {n : Int} (hx : a.eval x = .int .i64 n) (h : wpList P ops Q rest (a.put o.dst (.bool (decide (n ∈ S)))) w) : wpList P ops Q (o :: rest) a w :=
  wpList_plain hgd fun K hK => by
    have hr := run_lookup_set ht hk he (H.at i hi) hS n
    unfold Oper.wp execOp
    simp only [ho, hm, hx, Sem.run_bind, hr, Result.andThen_ok, Sem.run_pure]
    exact hK _ _ h
theorem wpList_lookup_new {ops : Array Oper} {rest : List Oper} {o : Oper} {a : Act} {Q : Exit → Act → World → Prop} (hgd : o.guard = none) (m x : Operand) {t k e : TypeId} (ho : o.op = .lookup t m x false)
    (ht : P.underlying t = some (.map k e)) (hk : P.underlying k = some (.int .i64)) (he : ∀ w, (zeroValue e).run P w = .ok (.bool false) w) (H : HS D W L w) (i : Nat) {b : Nat} {es : Array MapEntry} {clock : Nat} (hi : L[i]? = some (.obj b (.map es clock))) {S : List Int} (hS : SetM es S)
    (hm : a.eval m = .map (some b)) {n : Int} (hx : a.eval x = .int .i64 n) (hn : n ∉ S) (h : wpList P ops Q rest (a.put o.dst (.bool false)) w) : wpList P ops Q (o :: rest) a w :=
  wpList_lookup_set hgd m x ho ht hk he H i hi hS hm hx (by rw [decide_eq_false hn]; exact h)
theorem wpList_update_set {ops : Array Oper} {rest : List Oper} {o : Oper} {a : Act} {Q : Exit → Act → World → Prop} (hgd : o.guard = none) (m x y : Operand) {t k e : TypeId} (ho : o.op = .mapUpdate t m x y)
    (ht : P.underlying t = some (.map k e)) (hk : P.underlying k = some (.int .i64)) (H : HS D W L w) (i : Nat) {b : Nat} {es : Array MapEntry} {clock : Nat} (hi : L[i]? = some (.obj b (.map es clock))) {S : List Int} (hS : SetM es S)
    (hm : a.eval m = .map (some b)) {n : Int} (hx : a.eval x = .int .i64 n) (hy : a.eval y = .bool true) (hn : n ∉ S)
    (h : ∀ w' es' clock', SetM es' (S ++ [n]) → HS D W (L.set i (.obj b (.map es' clock'))) w' → wpList P ops Q rest (a.put o.dst undef) w') : wpList P ops Q (o :: rest) a w :=
  wpList_plain hgd fun K hK => by
    have hr := run_update_set (e := e) ht hk (H.at i hi) hS hn
    unfold Oper.wp execOp
    simp only [ho, hm, hx, hy, Sem.run_bind, hr, Result.andThen_ok, Sem.run_pure]
    exact hK _ _ (h _ _ _ (hS.push n clock) (H.objAt i hi _))
/-- A map asked under a guard that lets it. -/
theorem wpList_lookup_want {ops : Array Oper} {rest : List Oper} {o : Oper} {a : Act} {Q : Exit → Act → World → Prop} (hw : Region.wanted o (yielded ops a.tmps) = true) (m x : Operand) {t k e : TypeId} (ho : o.op = .lookup t m x false)
    (ht : P.underlying t = some (.map k e)) (hk : P.underlying k = some (.int .i64)) (he : ∀ w, (zeroValue e).run P w = .ok (.bool false) w) (H : HS D W L w) (i : Nat) {b : Nat} {es : Array MapEntry} {clock : Nat} (hi : L[i]? = some (.obj b (.map es clock))) {S : List Int} (hS : SetM es S)
    (hm : a.eval m = .map (some b)) {n : Int} (hx : a.eval x = .int .i64 n) (hn : n ∉ S) (h : wpList P ops Q rest (a.put o.dst (.bool false)) w) : wpList P ops Q (o :: rest) a w := by
  unfold wpList
  rw [if_pos hw]
  refine .inl ?_
  have hr := run_lookup_set ht hk he (H.at i hi) hS n
  rw [decide_eq_false hn] at hr
  unfold Oper.wp execOp
  simp only [ho, hm, hx, Sem.run_bind, hr, Result.andThen_ok, Sem.run_pure]
  exact h
end
end Go.Proofs.Ytfmcicmbehjdcaa
