/- `m[k]++` on a map of one's own whose keys are structs: the entry is taken (and laid, if it is not there), its value stored. -/
import Derived.Test.YtdhnpjgnnfgklaaMapG
import Derived.Test.YtdhnpjgnnfgklaaK2
namespace Go.Proofs.Ytdhnpjgnnfgklaa
set_option linter.unusedSimpArgs false
set_option linter.unusedVariables false
open Go.RowKit
open Go.ChangeMaps (setBlock)

section
variable {α : Type} {kv : α → Value} {P : Program} {k : TypeId}
/-- An entry with the key x and the stamp s. -/
def EntryAt (kv : α → Value) (es : Array MapEntry) (s : Nat) (x : α) : Prop := ∃ (i : Nat) (e : MapEntry), es.toList[i]? = some e ∧ e.born = s ∧ e.key = kv x
theorem kv_inj [DecidableEq α] (hk : KeyOk P k kv) {x y : α} (h : kv x = kv y) (w : World) : x = y := by
  have h1 := hk.eq x y w
  rw [h, hk.eq y y w] at h1
  simp at h1
  exact h1
theorem run_mapEntry_G [DecidableEq α] {z : Value} {t e : TypeId} (ht : P.underlying t = some (.map k e)) (hk : KeyOk P k kv) (he : ∀ w, (zeroValue e).run P w = .ok z w) {w : World} {b : Nat} {es : Array MapEntry} {clock : Nat} (hb : w.heap[b]? = some (.map es clock)) {M : List (α × Value)} (hM : MapG kv es clock M) (x : α) :
    ∃ es' clock' s, MapG kv es' clock' (putG x ((getG x M).getD z) M) ∧ EntryAt kv es' s x ∧ (Instr.mapEntry t (.map (some b)) (kv x)).run P w = .ok (.tuple #[(getG x M).getD z, goInt s]) { w with heap := w.heap.setIfInBounds b (.map es' clock') } := by
  unfold Instr.mapEntry
  rcases run_find_G hk x w es.toList M hM.kv with ⟨h1, h2, h3, -⟩ | ⟨v, j, e', h1, hj, hkey, h2, h3, -⟩
  · rw [h1]
    refine ⟨_, _, clock, hM.push x z (h3 z), ⟨es.size, { key := kv x, val := z, born := clock }, by simp, rfl, rfl⟩, ?_⟩
    simp [run_underlying ht, MapKept.run_getObj_map hb, hk.chk, h2, he, MapKept.run_setObj_map _ hb]
  · rw [h1]
    have hj' : es[j]? = some e' := by simpa using hj
    have hl := (List.getElem?_eq_some_iff.1 hj).1
    have hv : e'.val = v := by
      have h4 := congrArg (fun l => l[j]?) hM.kv
      simp only [List.getElem?_map, hj, Option.map_some] at h4
      cases hq : M[j]? with
      | none => rw [hq] at h4; cases h4
      | some p =>
        rw [hq] at h4
        simp only [Option.map_some, Option.some.injEq, Prod.mk.injEq] at h4
        have hx : x = p.1 := kv_inj hk (hkey.symm.trans h4.1) w
        have hp : (x, p.2) ∈ M := by rw [hx]; exact List.mem_of_getElem? hq
        have := (getG_mem hM.keys).2 hp
        rw [h1] at this
        injection this with this
        rw [h4.2, this]
    have hset : (es.modify j fun e => { e with key := kv x }).toList = es.toList.set j { key := kv x, val := v, born := e'.born } := by
      rw [Array.toList_modify]
      apply List.ext_getElem?
      intro i
      rw [List.getElem?_modify, List.getElem?_set]
      by_cases hij : j = i
      · subst hij
        simp only [Array.length_toList] at hl
        simp [hj, hl]
        rw [show es[j] = e' from (Array.getElem?_eq_some_iff.1 hj').2, hv]
        exact ⟨rfl, rfl⟩
      · simp [hij]
    refine ⟨es.modify j fun e => { e with key := kv x }, clock, e'.born, hM.turn hj (e' := { key := kv x, val := v, born := e'.born }) rfl hset (by rw [hset]; exact h3 v) (putG_keys x v hM.keys).1, ⟨j, { key := kv x, val := v, born := e'.born }, ?_, rfl, rfl⟩, ?_⟩
    · rw [hset, List.getElem?_set_self hl]
    · simp [run_underlying ht, MapKept.run_getObj_map hb, hk.chk, h2, hj', hkey, hk.keep, MapKept.run_setObj_map _ hb]
theorem run_entryStore_G [DecidableEq α] (hk : KeyOk P k kv) {t : TypeId} {w : World} {b : Nat} {es : Array MapEntry} {clock : Nat} (hb : w.heap[b]? = some (.map es clock)) {M : List (α × Value)} (hM : MapG kv es clock M) {x : α} {s : Nat} (hs : EntryAt kv es s x) (u : Value) :
    ∃ es', MapG kv es' clock (putG x u M) ∧ (Instr.entryStore t (.map (some b)) (goInt s) u).run P w = .ok () { w with heap := w.heap.setIfInBounds b (.map es' clock) } := by
  obtain ⟨i, e, hi, hbo, hke⟩ := hs
  have hil := (List.getElem?_eq_some_iff.1 hi).1
  have hie := (List.getElem?_eq_some_iff.1 hi).2
  have hi' : es[i]? = some e := by simpa using hi
  rcases run_find_G hk x w es.toList M hM.kv with ⟨h1, h2, h3, -⟩ | ⟨v, j, e', h1, hj, hkey, h2, h3, -⟩
  · exfalso
    have h4 := congrArg (fun l => l[i]?) hM.kv
    simp only [List.getElem?_map, hi, Option.map_some] at h4
    cases hq : M[i]? with
    | none => rw [hq] at h4; cases h4
    | some p =>
      rw [hq] at h4
      simp only [Option.map_some, Option.some.injEq, Prod.mk.injEq] at h4
      have hx : x = p.1 := kv_inj hk (hke.symm.trans h4.1) w
      have hp : (x, p.2) ∈ M := by rw [hx]; exact List.mem_of_getElem? hq
      have := (getG_mem hM.keys).2 hp
      rw [h1] at this; cases this
  · have hjl := (List.getElem?_eq_some_iff.1 hj).1
    have hij : i = j := by
      have h4 := congrArg (fun l => l[i]?) hM.kv
      have h5 := congrArg (fun l => l[j]?) hM.kv
      simp only [List.getElem?_map, hi, hj, Option.map_some] at h4 h5
      cases hq : M[i]? with
      | none => rw [hq] at h4; cases h4
      | some p =>
        cases hq2 : M[j]? with
        | none => rw [hq2] at h5; cases h5
        | some p2 =>
          rw [hq] at h4; rw [hq2] at h5
          simp only [Option.map_some, Option.some.injEq, Prod.mk.injEq] at h4 h5
          have hx : x = p.1 := kv_inj hk (hke.symm.trans h4.1) w
          have hx2 : x = p2.1 := kv_inj hk (hkey.symm.trans h5.1) w
          have hn := List.pairwise_iff_getElem.1 hM.keys
          have hmi := (List.getElem?_eq_some_iff.1 hq)
          have hmj := (List.getElem?_eq_some_iff.1 hq2)
          obtain ⟨a1, a2⟩ := hmi
          obtain ⟨b1, b2⟩ := hmj
          refine Decidable.byContradiction fun hne => ?_
          rcases Nat.lt_or_gt_of_ne hne with hl | hl
          · have := hn i j (by simpa using a1) (by simpa using b1) hl
            simp only [List.getElem_map, a2, b2] at this
            exact this (hx.symm.trans hx2)
          · have := hn j i (by simpa using b1) (by simpa using a1) hl
            simp only [List.getElem_map, a2, b2] at this
            exact this (hx2.symm.trans hx)
    subst hij
    have hee : e' = e := by rw [hi] at hj; injection hj with hj; exact hj.symm
    subst hee
    have hfi : es.findIdx? (fun e => (e.born : Int) == ((s : Nat) : Int)) = some i := by
      rw [Array.findIdx?_eq_some_iff_getElem]
      have hisz : i < es.size := by simpa using hil
      refine ⟨hisz, ?_, fun j hji => ?_⟩
      · have : es[i] = e' := (Array.getElem?_eq_some_iff.1 hi').2
        rw [this, hbo]; simp
      · have hn := List.pairwise_iff_getElem.1 hM.nodup
        have hjs : j < es.size := by omega
        have := hn j i (by simpa using hjs) (by simpa using hisz) hji
        simp only [List.getElem_map, Array.getElem_toList] at this
        rw [show es[i] = e' from (Array.getElem?_eq_some_iff.1 hi').2, hbo] at this
        simp
        omega
    have hset : (es.modify i fun e => { e with val := u }).toList = es.toList.set i { key := kv x, val := u, born := e'.born } := by
      rw [Array.toList_modify]
      apply List.ext_getElem?
      intro m
      rw [List.getElem?_modify, List.getElem?_set]
      by_cases hij : i = m
      · subst hij
        simp only [Array.length_toList] at hil
        simp [hi, hil]
        rw [show es[i] = e' from (Array.getElem?_eq_some_iff.1 hi').2, hke]
        exact ⟨rfl, rfl⟩
      · simp [hij]
    refine ⟨es.modify i fun e => { e with val := u }, hM.turn hi (e' := { key := kv x, val := u, born := e'.born }) rfl hset (by rw [hset]; exact h3 u) (putG_keys x u hM.keys).1, ?_⟩
    unfold Instr.entryStore
    simp [MapKept.run_getObj_map hb, goInt, asInt, asIntOf, hfi, MapKept.run_setObj_map _ hb]
variable {z : Value} {D : Nat → Prop} {W w : World} {L : List Item} {ops : Array Oper} {o : Oper} {a : Act} {K : Act → World → Prop} {Q : Exit → Act → World → Prop} {E : Prop}
/-- A look-up (of the value alone), as one step of a region that draws. -/
theorem step_lookup1_G [DecidableEq α] (hgd : o.guard = none) (m x : Operand) {t e : TypeId} (ho : o.op = .lookup t m x false)
    (ht : P.underlying t = some (.map k e)) (hk : KeyOk P k kv) (he : ∀ w, (zeroValue e).run P w = .ok z w) (H : HS D W L w) (i : Nat) {b : Nat} {es : Array MapEntry} {clock : Nat} (hi : L[i]? = some (.obj b (.map es clock))) {M : List (α × Value)} (hM : MapG kv es clock M)
    (hm : a.eval m = .map (some b)) {n : α} (hx : a.eval x = kv n) {v : Value} (hv : (getG n M).getD z = v) (h : K (a.put o.dst v) w) :
    if Region.wanted o (yielded ops a.tmps) = true then Oper.wp P o a w K Q else E := by
  rw [if_pos (by simp [Region.wanted, hgd])]
  have hr : (Instr.lookup t (.map (some b)) (kv n) false).run P w = .ok v w := by
    unfold Instr.lookup
    have hb := H.at i hi
    rcases run_find_G hk n w es.toList M hM.kv with ⟨h1, h2, -⟩ | ⟨v', j, e', h1, hj, hkey, h2, -⟩
    · rw [h1] at hv; subst hv
      simp [run_underlying ht, MapKept.run_getObj_map hb, hk.chk, h2, he]
    · rw [h1] at hv; subst hv
      simp [run_underlying ht, MapKept.run_getObj_map hb, hk.chk, h2, he]
  unfold Oper.wp execOp
  simp only [ho, hm, hx, Sem.run_bind, hr, Result.andThen_ok, Sem.run_pure]
  exact h
theorem wpList_lookup1_G [DecidableEq α] {rest : List Oper} (hgd : o.guard = none) (m x : Operand) {t e : TypeId} (ho : o.op = .lookup t m x false)
    (ht : P.underlying t = some (.map k e)) (hk : KeyOk P k kv) (he : ∀ w, (zeroValue e).run P w = .ok z w) (H : HS D W L w) (i : Nat) {b : Nat} {es : Array MapEntry} {clock : Nat} (hi : L[i]? = some (.obj b (.map es clock))) {M : List (α × Value)} (hM : MapG kv es clock M)
    (hm : a.eval m = .map (some b)) {n : α} (hx : a.eval x = kv n) {v : Value} (hv : (getG n M).getD z = v) (h : wpList P ops Q rest (a.put o.dst v) w) : wpList P ops Q (o :: rest) a w :=
  wpList_plain hgd fun K hK => by
    have := step_lookup1_G (ops := ops) (K := K) (Q := fun e a w => Q e a w) (E := True) hgd m x ho ht hk he H i hi hM hm hx hv (hK _ _ h)
    rwa [if_pos (by simp [Region.wanted, hgd])] at this
/-- The store into it. -/
theorem step_estore_G [DecidableEq α] (hgd : o.guard = none) (m s x : Operand) {t : TypeId} (ho : o.op = .entryStore t m s x)
    (hk : KeyOk P k kv) (H : HS D W L w) (i : Nat) {b : Nat} {es : Array MapEntry} {clock : Nat} (hi : L[i]? = some (.obj b (.map es clock))) {M : List (α × Value)} (hM : MapG kv es clock M)
    (hm : a.eval m = .map (some b)) {n : α} {q : Nat} (hq : EntryAt kv es q n) (hs : a.eval s = goInt (q : Nat)) {u : Value} (hx : a.eval x = u)
    (h : ∀ w' es', MapG kv es' clock (putG n u M) → HS D W (L.set i (.obj b (.map es' clock))) w' → K (a.put o.dst undef) w') :
    if Region.wanted o (yielded ops a.tmps) = true then Oper.wp P o a w K Q else E := by
  rw [if_pos (by simp [Region.wanted, hgd])]
  obtain ⟨es', h1, hr⟩ := run_entryStore_G (t := t) hk (H.at i hi) hM hq u
  unfold Oper.wp execOp
  simp only [ho, hm, hs, hx, Sem.run_bind, hr, Result.andThen_ok, Sem.run_pure]
  exact h _ es' h1 (H.objToG i hi _)
theorem putG_putG [DecidableEq α] (x : α) (u v : Value) : ∀ M : List (α × Value), putG x v (putG x u M) = putG x v M
  | [] => by simp [putG]
  | p :: M => by
    by_cases h : x = p.1
    · simp [putG, h]
    · simp [putG, h, putG_putG x u v M]
/-! ### in a region that draws, walked in its text's order -/
/-- What stays true in such a region: the map's block holds a map that has n at y (or nothing, and n is the zero), all else as L says. -/
def SMap [DecidableEq α] (kv : α → Value) (D : Nat → Prop) (W : World) (L : Obj → List Item) (y : α) (z v : Value) (w' : World) : Prop := ∃ es ck M, MapG kv es ck M ∧ (getG y M).getD z = v ∧ HS D W (L (.map es ck)) w'
theorem run_lookup1_G [DecidableEq α] {t e : TypeId} (ht : P.underlying t = some (.map k e)) (hk : KeyOk P k kv) (he : ∀ w, (zeroValue e).run P w = .ok z w) {b : Nat} {es : Array MapEntry} {clock : Nat} (hb : w.heap[b]? = some (.map es clock)) {M : List (α × Value)} (hM : MapG kv es clock M) (n : α) :
    (Instr.lookup t (.map (some b)) (kv n) false).run P w = .ok ((getG n M).getD z) w := by
  unfold Instr.lookup
  rcases run_find_G hk n w es.toList M hM.kv with ⟨h1, h2, -⟩ | ⟨v', j, e', h1, hj, hkey, h2, -⟩
  · rw [h1]; simp [run_underlying ht, MapKept.run_getObj_map hb, hk.chk, h2, he]
  · rw [h1]; simp [run_underlying ht, MapKept.run_getObj_map hb, hk.chk, h2, he]
variable {σ : SW} {rest : List Oper} {QX : Act → World → Prop}
theorem wpX_lookup1_G [DecidableEq α] (hw : Region.wanted o (yielded ops a.tmps) = true) (he0 : effOp o.op = false) (m x : Operand) {t e : TypeId} (ho : o.op = .lookup t m x false)
    (ht : P.underlying t = some (.map k e)) (hk : KeyOk P k kv) (he : ∀ w, (zeroValue e).run P w = .ok z w) {b : Nat} {n : α} {v : Value} (hS : ∀ w, σ.S w → ∃ es ck M, w.heap[b]? = some (.map es ck) ∧ MapG kv es ck M ∧ (getG n M).getD z = v)
    (hm : a.eval m = .map (some b)) (hx : a.eval x = kv n) (h : wpX P ops σ QX rest (a.put o.dst v) w) : wpX P ops σ QX (o :: rest) a w := by
  refine wpX_yield hw he0 v (fun w hs => ?_) h
  obtain ⟨es, ck, M, h1, h2, rfl⟩ := hS w hs
  unfold execOp
  simp only [ho, hm, hx, Sem.run_bind, run_lookup1_G ht hk he h1 h2 n, Result.andThen_ok, Sem.run_pure]
theorem wpX_entry_G [DecidableEq α] (hw : Region.wanted o (yielded ops a.tmps) = true) (he0 : effOp o.op = true) (m x : Operand) {t e : TypeId} (ho : o.op = .mapEntry t m x)
    (ht : P.underlying t = some (.map k e)) (hk : KeyOk P k kv) (he : ∀ w, (zeroValue e).run P w = .ok z w) (H : HS D W L w) (i : Nat) {b : Nat} {es : Array MapEntry} {clock : Nat} (hi : L[i]? = some (.obj b (.map es clock))) {M : List (α × Value)} (hM : MapG kv es clock M)
    (hm : a.eval m = .map (some b)) {n : α} (hx : a.eval x = kv n) {v : Value} (hv : (getG n M).getD z = v)
    (h : ∀ w' es' clock' s, MapG kv es' clock' (putG n v M) → EntryAt kv es' s n → HS D W (L.set i (.obj b (.map es' clock'))) w' → σ.S w' ∧ wpX P ops σ QX rest (a.put o.dst (.tuple #[v, goInt (s : Nat)])) w') : wpX P ops σ QX (o :: rest) a w := by
  refine wpX_eff hw he0 fun K hK => ?_
  obtain ⟨es', clock', s, h1, h2, hr⟩ := run_mapEntry_G ht hk he (H.at i hi) hM n
  rw [hv] at h1 hr
  unfold Oper.wp execOp
  simp only [ho, hm, hx, Sem.run_bind, hr, Result.andThen_ok, Sem.run_pure]
  exact hK _ _ (h _ es' clock' s h1 h2 (H.objToG i hi _))
theorem wpList_estore_G [DecidableEq α] (hgd : o.guard = none) (m s x : Operand) {t : TypeId} (ho : o.op = .entryStore t m s x)
    (hk : KeyOk P k kv) (H : HS D W L w) (i : Nat) {b : Nat} {es : Array MapEntry} {clock : Nat} (hi : L[i]? = some (.obj b (.map es clock))) {M : List (α × Value)} (hM : MapG kv es clock M)
    (hm : a.eval m = .map (some b)) {n : α} {q : Nat} (hq : EntryAt kv es q n) (hs : a.eval s = goInt (q : Nat)) {u : Value} (hx : a.eval x = u)
    (h : ∀ w' es', MapG kv es' clock (putG n u M) → HS D W (L.set i (.obj b (.map es' clock))) w' → wpList P ops Q rest (a.put o.dst undef) w') : wpList P ops Q (o :: rest) a w :=
  wpList_plain hgd fun K hK => by
    have := step_estore_G (ops := ops) (K := K) (Q := fun e a w => Q e a w) (E := True) hgd m s x ho hk H i hi hM hm hq hs hx fun w' es' h1 h2 => hK _ _ (h w' es' h1 h2)
    rwa [if_pos (by simp [Region.wanted, hgd])] at this
theorem getG_putSelf [DecidableEq α] (x : α) (v : Value) (M : List (α × Value)) (z : Value) : (getG x (putG x v M)).getD z = v := by rw [getG_put]; simp
end
end Go.Proofs.Ytdhnpjgnnfgklaa
