/- A map of one's own whose keys are structs: asking it, putting into it, deleting from it, ranging over it. -/
import Derived.Test.YtdhnpjgnnfgklaaK1
import Derived.MapKept
import Derived.Maps.RangeRun
import Derived.Maps.RangeWalk
namespace Go.Proofs.Ytdhnpjgnnfgklaa
set_option linter.unusedSimpArgs false
set_option linter.unusedVariables false
open Go.RowKit
open Go.ChangeMaps (setBlock)

/-- The keys' type: how a key lies, and that two are compared as they are. -/
structure KeyOk {α : Type} [DecidableEq α] (P : Program) (k : TypeId) (kv : α → Value) : Prop where
  chk : ∀ (x : α) (e : Bool) (w : World), (Instr.checkKey e 10000 k (kv x)).run P w = .ok () w
  eq : ∀ (x y : α) (w : World), (Op.equal k (kv x) (kv y)).run P w = .ok (decide (x = y)) w
  und : ∃ d, P.underlying k = some d ∧ ((∀ x y, Instr.sameNow d (kv x) (kv y) = none) ∨ ∀ x y, Instr.sameNow d (kv x) (kv y) = some (decide (x = y)))
  keep : ∀ (x : α) (w : World), (Instr.keyThatStays (kv x) (kv x)).run P w = .ok (kv x) w
section
variable {α : Type} {kv : α → Value}
/-- The map's entries: the keys, each once, and what stands at each; stamps below the clock, each its own. -/
structure MapG (kv : α → Value) (es : Array MapEntry) (clock : Nat) (M : List (α × Value)) : Prop where
  kv : es.toList.map (fun e => (e.key, e.val)) = M.map fun p => (kv p.1, p.2)
  born : ∀ e ∈ es.toList, e.born < clock
  nodup : (es.toList.map (·.born)).Nodup
  keys : (M.map (·.1)).Nodup
def getG [DecidableEq α] (x : α) : List (α × Value) → Option Value
  | [] => none
  | p :: M => if x = p.1 then some p.2 else getG x M
def putG [DecidableEq α] (x : α) (v : Value) : List (α × Value) → List (α × Value)
  | [] => [(x, v)]
  | p :: M => if x = p.1 then (p.1, v) :: M else p :: putG x v M
def delG [DecidableEq α] (x : α) : List (α × Value) → List (α × Value)
  | [] => []
  | p :: M => if x = p.1 then M else p :: delG x M
theorem getG_put [DecidableEq α] (x y : α) (v : Value) : ∀ M : List (α × Value), getG y (putG x v M) = if y = x then some v else getG y M
  | [] => by by_cases h : y = x <;> simp [getG, putG, h]
  | p :: M => by
    by_cases h : x = p.1
    · subst h
      by_cases h2 : y = p.1 <;> simp [getG, putG, h2]
    · rw [putG, if_neg h, getG, getG, getG_put x y v M]
      by_cases h2 : y = p.1
      · rw [if_pos h2, if_pos h2, if_neg (fun e => h (e.symm.trans h2))]
      · rw [if_neg h2, if_neg h2]
theorem getG_mem [DecidableEq α] {x : α} {v : Value} : ∀ {M : List (α × Value)}, (M.map (·.1)).Nodup → (getG x M = some v ↔ (x, v) ∈ M)
  | [], _ => by simp [getG]
  | p :: M, hn => by
    simp only [List.map_cons, List.nodup_cons] at hn
    rw [getG, List.mem_cons]
    by_cases h : x = p.1
    · rw [if_pos h]
      constructor
      · intro e; injection e with e; subst e; subst h; exact .inl rfl
      · rintro (e | e)
        · rw [← e]
        · exact absurd (List.mem_map.2 ⟨_, e, h⟩) hn.1
    · rw [if_neg h, getG_mem hn.2]
      constructor
      · exact .inr
      · rintro (e | e)
        · exact absurd (by rw [← e]) h
        · exact e
theorem putG_keys [DecidableEq α] (x : α) (v : Value) : ∀ {M : List (α × Value)}, (M.map (·.1)).Nodup → ((putG x v M).map (·.1)).Nodup ∧ ∀ y, y ∈ (putG x v M).map (·.1) ↔ y = x ∨ y ∈ M.map (·.1)
  | [], _ => by simp [putG]
  | p :: M, hn => by
    simp only [List.map_cons, List.nodup_cons] at hn
    by_cases h : x = p.1
    · subst h
      rw [putG, if_pos rfl]
      simp [hn.1, hn.2]
    · obtain ⟨h1, h2⟩ := putG_keys x v hn.2
      rw [putG, if_neg h]
      simp only [List.map_cons, List.nodup_cons, List.mem_cons]
      refine ⟨⟨fun hm => ?_, h1⟩, fun y => ?_⟩
      · rcases (h2 _).1 hm with e | e
        · exact h e.symm
        · exact hn.1 e
      · rw [h2]
        constructor
        · rintro (e | e | e)
          · exact .inr (.inl e)
          · exact .inl e
          · exact .inr (.inr e)
        · rintro (e | e | e)
          · exact .inr (.inl e)
          · exact .inl e
          · exact .inr (.inr e)
theorem MapG.nil (kv : α → Value) : MapG kv #[] 0 [] := ⟨rfl, fun e h => (List.not_mem_nil h).elim, List.nodup_nil, List.nodup_nil⟩
variable {P : Program} {k : TypeId}
theorem run_asking [DecidableEq α] (hk : KeyOk P k kv) (x : α) (w : World) : ∀ (l : List MapEntry) (M : List (α × Value)) (i : Nat), l.map (fun e => (e.key, e.val)) = M.map (fun p => (kv p.1, p.2)) →
    (getG x M = none ∧ (Instr.findAsking k (kv x) l i).run P w = .ok none w ∧ (∀ v, putG x v M = M ++ [(x, v)]) ∧ delG x M = M) ∨
    (∃ v j e, getG x M = some v ∧ l[j]? = some e ∧ e.key = kv x ∧ (Instr.findAsking k (kv x) l i).run P w = .ok (some (i + j, v)) w ∧
      (∀ u, (l.set j { key := kv x, val := u, born := e.born }).map (fun e => (e.key, e.val)) = (putG x u M).map (fun p => (kv p.1, p.2))) ∧
      (l.eraseIdx j).map (fun e => (e.key, e.val)) = (delG x M).map (fun p => (kv p.1, p.2)))
  | [], M, i, hm => by
    cases M with
    | nil => exact .inl ⟨rfl, rfl, fun _ => rfl, rfl⟩
    | cons => simp at hm
  | e :: l, M, i, hm => by
    cases M with
    | nil => simp at hm
    | cons s M =>
      simp only [List.map_cons, List.cons.injEq, Prod.mk.injEq] at hm
      by_cases hx : x = s.1
      · refine .inr ⟨s.2, 0, e, ?_, rfl, by rw [hm.1.1, hx], ?_, fun u => ?_, ?_⟩
        · simp [getG, hx]
        · simp [Instr.findAsking, hm.1.1, hk.eq, hx, hm.1.2]
        · simp [putG, hx, hm.2]
        · simp [delG, hx, hm.2]
      · rcases run_asking hk x w l M (i + 1) hm.2 with ⟨h1, h2, h3, h4⟩ | ⟨v, j, e', h1, hj, hkey, h2, h3, h4⟩
        · exact .inl ⟨by simp [getG, hx, h1], by simp [Instr.findAsking, hm.1.1, hk.eq, hx, h2], fun v => by simp [putG, hx, h3], by simp [delG, hx, h4]⟩
        · refine .inr ⟨v, j + 1, e', by simp [getG, hx, h1], by simpa using hj, hkey, ?_, fun u => ?_, ?_⟩
          · simp only [Instr.findAsking, hm.1.1, hk.eq, hx, decide_false, Bool.false_eq_true, if_false, Sem.run_bind, Result.andThen_ok, h2]
            simp; omega
          · simp [putG, hx, hm.1, h3 u]
          · simp [delG, hx, hm.1, h4]
theorem find_now [DecidableEq α] (hk : KeyOk P k kv) {d : TypeDesc} (hs : ∀ x y, Instr.sameNow d (kv x) (kv y) = some (decide (x = y))) (x : α) (w : World) : ∀ (l : List MapEntry) (M : List (α × Value)) (i : Nat), l.map (fun e => (e.key, e.val)) = M.map (fun p => (kv p.1, p.2)) →
    ∃ r, Instr.findNow d (kv x) l i = some r ∧ (Instr.findAsking k (kv x) l i).run P w = .ok r w
  | [], M, i, hm => ⟨none, rfl, rfl⟩
  | e :: l, M, i, hm => by
    cases M with
    | nil => simp at hm
    | cons s M =>
      simp only [List.map_cons, List.cons.injEq, Prod.mk.injEq] at hm
      by_cases hx : x = s.1
      · exact ⟨some (i, e.val), by simp [Instr.findNow, hm.1.1, hs, hx], by simp [Instr.findAsking, hm.1.1, hk.eq, hx]⟩
      · obtain ⟨r, h1, h2⟩ := find_now hk hs x w l M (i + 1) hm.2
        exact ⟨r, by simp [Instr.findNow, hm.1.1, hs, hx, h1], by simp [Instr.findAsking, hm.1.1, hk.eq, hx, h2]⟩
theorem run_find_G [DecidableEq α] (hk : KeyOk P k kv) (x : α) (w : World) (l : List MapEntry) (M : List (α × Value)) (hm : l.map (fun e => (e.key, e.val)) = M.map (fun p => (kv p.1, p.2))) :
    (getG x M = none ∧ (Instr.findKey k (kv x) l).run P w = .ok none w ∧ (∀ v, putG x v M = M ++ [(x, v)]) ∧ delG x M = M) ∨
    (∃ v j e, getG x M = some v ∧ l[j]? = some e ∧ e.key = kv x ∧ (Instr.findKey k (kv x) l).run P w = .ok (some (j, v)) w ∧
      (∀ u, (l.set j { key := kv x, val := u, born := e.born }).map (fun e => (e.key, e.val)) = (putG x u M).map (fun p => (kv p.1, p.2))) ∧
      (l.eraseIdx j).map (fun e => (e.key, e.val)) = (delG x M).map (fun p => (kv p.1, p.2))) := by
  obtain ⟨d, hd, hs⟩ := hk.und
  have e : (Instr.findKey k (kv x) l).run P w = (Instr.findAsking k (kv x) l 0).run P w := by
    unfold Instr.findKey
    simp only [Sem.run_bind, run_underlying hd, Result.andThen_ok]
    rcases hs with hs | hs
    · cases l with
      | nil => simp [Instr.findNow, Instr.findAsking]
      | cons e l =>
        cases M with
        | nil => simp at hm
        | cons s M =>
          simp only [List.map_cons, List.cons.injEq, Prod.mk.injEq] at hm
          simp only [Instr.findNow, hm.1.1, hs]
    · obtain ⟨r, h1, h2⟩ := find_now hk hs x w l M 0 hm
      rw [h1, h2]
      simp
  rw [e]
  have := run_asking hk x w l M 0 hm
  simpa only [Nat.zero_add] using this
theorem set_bornG {l : List MapEntry} {j : Nat} {e e' : MapEntry} (he : l[j]? = some e) (hb : e'.born = e.born) : (l.set j e').map (·.born) = l.map (·.born) := by
  rw [List.map_set]
  apply List.ext_getElem?
  intro i
  rw [List.getElem?_set]
  by_cases hij : j = i
  · subst hij
    have hl := (List.getElem?_eq_some_iff.1 he).1
    have he2 : l[j] = e := (List.getElem?_eq_some_iff.1 he).2
    simp [he, hb, hl, he2]
  · simp [hij]
theorem MapG.push [DecidableEq α] {es : Array MapEntry} {clock : Nat} {M : List (α × Value)} (h : MapG kv es clock M) (x : α) (v : Value) (hx : putG x v M = M ++ [(x, v)]) : MapG kv (es.push { key := kv x, val := v, born := clock }) (clock + 1) (putG x v M) := by
  refine ⟨by simp [h.kv, hx], ?_, ?_, (putG_keys x v h.keys).1⟩
  · intro e he'
    rw [Array.toList_push, List.mem_append] at he'
    rcases he' with he' | he'
    · have := h.born e he'; omega
    · rw [List.mem_singleton.1 he']; show clock < clock + 1; omega
  · rw [Array.toList_push, List.map_append, List.nodup_append]
    refine ⟨h.nodup, by simp, ?_⟩
    intro a ha b hb'
    obtain ⟨e, he', rfl⟩ := List.mem_map.1 ha
    simp at hb'
    have := h.born e he'
    omega
theorem MapG.turn {es es' : Array MapEntry} {clock : Nat} {M M' : List (α × Value)} (h : MapG kv es clock M) {j : Nat} {e e' : MapEntry} (he : es.toList[j]? = some e) (hb : e'.born = e.born) (hes : es'.toList = es.toList.set j e')
    (hkv : es'.toList.map (fun e => (e.key, e.val)) = M'.map fun p => (kv p.1, p.2)) (hn : (M'.map (·.1)).Nodup) : MapG kv es' clock M' := by
  have hbo : es'.toList.map (·.born) = es.toList.map (·.born) := by rw [hes]; exact set_bornG he hb
  refine ⟨hkv, ?_, by rw [hbo]; exact h.nodup, hn⟩
  intro x hx
  have : x.born ∈ es'.toList.map (·.born) := List.mem_map.2 ⟨x, hx, rfl⟩
  rw [hbo] at this
  obtain ⟨y, hy, hyx⟩ := List.mem_map.1 this
  rw [← hyx]; exact h.born y hy
variable {z : Value} {D : Nat → Prop} {W w : World} {L : List Item}
theorem run_update_G [DecidableEq α] {t e : TypeId} (ht : P.underlying t = some (.map k e)) (hk : KeyOk P k kv) {b : Nat} {es : Array MapEntry} {clock : Nat} (hb : w.heap[b]? = some (.map es clock)) {M : List (α × Value)} (hM : MapG kv es clock M) (x : α) (u : Value) :
    ∃ es' clock', MapG kv es' clock' (putG x u M) ∧ (Instr.mapUpdate t (.map (some b)) (kv x) (u)).run P w = .ok () { w with heap := w.heap.setIfInBounds b (.map es' clock') } := by
  unfold Instr.mapUpdate
  rcases run_find_G hk x w es.toList M hM.kv with ⟨h1, h2, h3, -⟩ | ⟨v, j, e', h1, hj, hkey, h2, h3, -⟩
  · refine ⟨_, _, hM.push x u (h3 u), ?_⟩
    simp [run_underlying ht, MapKept.run_getObj_map hb, hk.chk, h2, MapKept.run_setObj_map _ hb]
  · have hj' : es[j]? = some e' := by simpa using hj
    have hset : (es.modify j fun e => { e with key := kv x, val := u }).toList = es.toList.set j { key := kv x, val := u, born := e'.born } := by
      rw [Array.toList_modify]
      apply List.ext_getElem?
      intro i
      rw [List.getElem?_modify, List.getElem?_set]
      by_cases hij : j = i
      · subst hij
        have hl := (List.getElem?_eq_some_iff.1 hj).1
        simp only [Array.length_toList] at hl
        simp [hj, hl]
        rw [show es[j] = e' from (List.getElem?_eq_some_iff.1 hj).2]
      · simp [hij]
    refine ⟨_, _, hM.turn hj (e' := { key := kv x, val := u, born := e'.born }) rfl hset (by rw [hset]; exact h3 u) (putG_keys x u hM.keys).1, ?_⟩
    simp [run_underlying ht, MapKept.run_getObj_map hb, hk.chk, h2, hj', hkey, hk.keep, MapKept.run_setObj_map _ hb]
theorem HS.objToG (h : HS D W L w) (i : Nat) {b : Nat} {o : Obj} (hi : L[i]? = some (.obj b o)) (o' : Obj) : HS D W (L.set i (.obj b o')) { w with heap := w.heap.setIfInBounds b o' } := by
  rw [set_at _ hi]
  rw [split_at hi] at h
  have hb : w.heap[b]? = some o := h.ok (.obj b o) (by simp)
  obtain ⟨h1, h2⟩ := MapKept.heap_set (o' := o') hb
  exact h.swap (X := .obj b o) (Y := .obj b o') rfl rfl rfl (by simp) (fun k hk hn => h2 k hn) h1 (fun k hk => .inl hk) (.inr rfl)
variable {ops : Array Oper} {rest : List Oper} {o : Oper} {a : Act} {Q : Exit → Act → World → Prop}
theorem wpList_update_G [DecidableEq α] (hgd : o.guard = none) (m x y : Operand) {t e : TypeId} (ho : o.op = .mapUpdate t m x y)
    (ht : P.underlying t = some (.map k e)) (hk : KeyOk P k kv) (H : HS D W L w) (i : Nat) {b : Nat} {es : Array MapEntry} {clock : Nat} (hi : L[i]? = some (.obj b (.map es clock))) {M : List (α × Value)} (hM : MapG kv es clock M)
    (hm : a.eval m = .map (some b)) {n : α} {u : Value} (hx : a.eval x = kv n) (hy : a.eval y = u)
    (h : ∀ w' es' clock', MapG kv es' clock' (putG n u M) → HS D W (L.set i (.obj b (.map es' clock'))) w' → wpList P ops Q rest (a.put o.dst undef) w') : wpList P ops Q (o :: rest) a w :=
  wpList_plain hgd fun K hK => by
    obtain ⟨es', clock', hM', hr⟩ := run_update_G (e := e) ht hk (H.at i hi) hM n u
    unfold Oper.wp execOp
    simp only [ho, hm, hx, hy, Sem.run_bind, hr, Result.andThen_ok, Sem.run_pure]
    exact hK _ _ (h _ _ _ hM' (H.objToG i hi _))
theorem run_mkMapG (t : TypeId) (w : World) : (Instr.makeMap t none).run P w = .ok (.map (some w.heap.size)) (w.alloc (.map #[] 0)) := rfl
theorem born_injG {x y : MapEntry} : ∀ {l : List MapEntry}, (l.map (·.born)).Nodup → x ∈ l → y ∈ l → x.born = y.born → x = y
  | [], _, hx, _, _ => absurd hx (by simp)
  | z :: l, hn, hx, hy, e => by
    simp only [List.map_cons, List.nodup_cons] at hn
    rcases List.mem_cons.1 hx with h1 | h1
    · rcases List.mem_cons.1 hy with h2 | h2
      · rw [h1, h2]
      · exact absurd (List.mem_map.2 ⟨y, h2, by rw [← e, h1]⟩) hn.1
    · rcases List.mem_cons.1 hy with h2 | h2
      · exact absurd (List.mem_map.2 ⟨x, h1, by rw [e, h2]⟩) hn.1
      · exact born_injG hn.2 h1 h2 e
theorem MapG.val_of {es : Array MapEntry} {clock : Nat} {M : List (α × Value)} (h : MapG kv es clock M) {x : α} {v : Value} (hm : (x, v) ∈ M) : ∃ e ∈ es.toList, e.key = kv x ∧ e.val = v := by
  have : (kv x, v) ∈ M.map fun p => (kv p.1, p.2) := List.mem_map.2 ⟨_, hm, rfl⟩
  rw [← h.kv] at this
  obtain ⟨e, he, hp⟩ := List.mem_map.1 this
  injection hp with h1 h2
  exact ⟨e, he, h1, h2⟩
/-- What holds of the key of each entry that has come. -/
def SeenG (kv : α → Value) (p : α → Prop) (es : Array MapEntry) (seen : Array Nat) : Prop := ∀ e ∈ es.toList, seen.contains e.born = true → ∀ x, e.key = kv x → p x
theorem SeenG.nil (p : α → Prop) (es : Array MapEntry) : SeenG kv p es #[] := fun e _ h => by simp at h
theorem SeenG.push {p : α → Prop} {es : Array MapEntry} {seen : Array Nat} {clock : Nat} {M : List (α × Value)} (h : SeenG kv p es seen) (hM : MapG kv es clock M) {e : MapEntry} (he : e ∈ es.toList) (hp : ∀ x, e.key = kv x → p x) : SeenG kv p es (seen.push e.born) := fun y hy hc u hu => by
  rw [Array.contains_push, Bool.or_eq_true] at hc
  rcases hc with hc | hc
  · first
    | exact h y hy hc u hu
    | (have := born_injG hM.nodup hy he (by simpa using hc); subst this; exact hp u hu)
  · first
    | exact h y hy hc u hu
    | (have := born_injG hM.nodup hy he (by simpa using hc); subst this; exact hp u hu)
theorem SeenG.imp {p q : α → Prop} {es : Array MapEntry} {seen : Array Nat} (h : SeenG kv p es seen) (hi : ∀ x, p x → q x) : SeenG kv q es seen := fun e he hc x hx => hi x (h e he hc x hx)
theorem SeenG.all {p : α → Prop} {es : Array MapEntry} {seen : Array Nat} {clock : Nat} {M : List (α × Value)} (h : SeenG kv p es seen) (hM : MapG kv es clock M) (hd : ∀ e ∈ es.toList, seen.contains e.born = true) : ∀ x v, (x, v) ∈ M → p x := fun x v hm => by
  obtain ⟨e, he, hk, _⟩ := hM.val_of hm
  exact h e he (hd e he) x hk
end
end Go.Proofs.Ytdhnpjgnnfgklaa
