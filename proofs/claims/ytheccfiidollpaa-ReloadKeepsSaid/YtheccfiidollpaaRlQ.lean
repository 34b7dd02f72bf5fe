/- Stores as lists: who is in; the map of what is wanted. -/
import Derived.Test.YtheccfiidollpaaRlP
import Derived.Test.YtheccfiidollpaaMapG
namespace Go.Proofs.Ytheccfiidollpaa
set_option linter.unusedSimpArgs false
set_option linter.unusedVariables false
open Go.RowKit
set_option maxRecDepth 100000
attribute [local irreducible] wpX wpF Calls

theorem mem_bang {α : Type} [Inhabited α] {l : List α} {i : Nat} (hi : i < l.length) : l[i]! ∈ l := by rw [getElem!_pos l i hi]; exact List.getElem_mem hi
theorem of_mem {α : Type} [Inhabited α] {l : List α} {x : α} (h : x ∈ l) : ∃ i, i < l.length ∧ l[i]! = x := by
  obtain ⟨i, hi, e⟩ := List.getElem_of_mem h
  exact ⟨i, hi, by rw [getElem!_pos l i hi, e]⟩
theorem GoodS.pw {size : Nat} {l : List Bm} (h : GoodS size l) : l.Pairwise fun x y => x.id < y.id := by
  rw [List.pairwise_iff_getElem]
  intro i j hi hj hij
  rw [← getElem!_pos l i hi, ← getElem!_pos l j hj]
  have := h.lt (j - i) i (by omega)
  rw [show i + (j - i) = j by omega] at this
  omega
theorem pw_ext : ∀ {l1 l2 : List Bm}, (l1.Pairwise fun x y => x.id < y.id) → (l2.Pairwise fun x y => x.id < y.id) → (∀ x, x ∈ l1 ↔ x ∈ l2) → l1 = l2
  | [], [], _, _, _ => rfl
  | [], y :: l2, _, _, h => absurd ((h y).2 (by simp)) List.not_mem_nil
  | x :: l1, [], _, _, h => absurd ((h x).1 (by simp)) List.not_mem_nil
  | x :: l1, y :: l2, h1, h2, h => by
    rw [List.pairwise_cons] at h1 h2
    have hxy : x = y := by
      rcases List.mem_cons.1 ((h x).1 (by simp)) with e | e
      · exact e
      · rcases List.mem_cons.1 ((h y).2 (by simp)) with e' | e'
        · exact e'.symm
        · have := h1.1 y e'; have := h2.1 x e; omega
    subst hxy
    rw [pw_ext h1.2 h2.2 fun z => ?_]
    constructor
    · intro hz
      rcases List.mem_cons.1 ((h z).1 (by simp [hz])) with e | e
      · subst e; have := h1.1 z hz; omega
      · exact e
    · intro hz
      rcases List.mem_cons.1 ((h z).2 (by simp [hz])) with e | e
      · subst e; have := h2.1 z hz; omega
      · exact e
theorem mem_put {size : Nat} {l : List Bm} (hg : GoodS size l) {b : Bm} {i : Nat} (hp : PosOf l b.id i) (x : Bm) : x ∈ putAt l i b ↔ x = b ∨ (x ∈ l ∧ x.id ≠ b.id) := by
  unfold putAt
  split
  · rename_i hex
    obtain ⟨hi, he⟩ := hex
    constructor
    · intro hx
      obtain ⟨k, hk, rfl⟩ := of_mem hx
      rw [List.length_set] at hk
      rw [set_get l b i k hk]
      by_cases e : k = i
      · rw [if_pos e]; exact .inl rfl
      · rw [if_neg e]; exact .inr ⟨mem_bang hk, by rw [← he]; exact hg.ne hk hi e⟩
    · rintro (e | ⟨hx, hne⟩)
      · have h1 := set_get l b i i hi
        rw [if_pos rfl] at h1
        have h2 := mem_bang (l := l.set i b) (i := i) (by rw [List.length_set]; exact hi)
        rw [h1] at h2
        rw [e]; exact h2
      · obtain ⟨k, hk, rfl⟩ := of_mem hx
        have hki : k ≠ i := fun e => hne (by rw [e]; exact he)
        have h1 := set_get l b i k hk
        rw [if_neg hki] at h1
        rw [← h1]
        exact mem_bang (l := l.set i b) (by rw [List.length_set]; exact hk)
  · rename_i hex
    have hno : ∀ k, k < l.length → (l[k]!).id ≠ b.id := fun k hk e => by
      by_cases h1 : k < i
      · have := hp.low k h1; omega
      · have h2 := hp.high i (Nat.le_refl _) (by omega)
        by_cases h3 : k = i
        · subst h3; exact hex ⟨hk, e⟩
        · have h4 := hg.lt (k - i) i (by omega)
          rw [show i + (k - i) = k by omega] at h4
          omega
    rw [List.mem_append, List.mem_cons]
    constructor
    · rintro (h | h | h)
      · have h1 := List.mem_of_mem_take h
        obtain ⟨k, hk, rfl⟩ := of_mem h1
        exact .inr ⟨h1, hno k hk⟩
      · exact .inl h
      · have h1 := List.mem_of_mem_drop h
        obtain ⟨k, hk, rfl⟩ := of_mem h1
        exact .inr ⟨h1, hno k hk⟩
    · rintro (rfl | ⟨h, -⟩)
      · exact .inr (.inl rfl)
      · rw [← List.take_append_drop i l, List.mem_append] at h
        rcases h with h | h
        · exact .inl h
        · exact .inr (.inr h)
theorem mem_drop {l : List Bm} {id : Int} (x : Bm) : x ∈ dropAt l id ↔ x ∈ l ∧ x.id ≠ id := by
  unfold dropAt
  rw [List.mem_filter]
  simp
theorem GoodS.of_pw {size : Nat} {l : List Bm} (h : l.Pairwise fun x y => x.id < y.id) (hg : ∀ x ∈ l, GoodB size x) : GoodS size l := ⟨fun i hi => hg _ (mem_bang hi), fun i hi => by
  have := List.pairwise_iff_getElem.1 h i (i + 1) (by omega) hi (by omega)
  rwa [← getElem!_pos l i (by omega), ← getElem!_pos l (i + 1) hi] at this⟩
theorem GoodS.drop {size : Nat} {l : List Bm} (h : GoodS size l) (id : Int) : GoodS size (dropAt l id) :=
  GoodS.of_pw (h.pw.filter _) fun x hx => by
    obtain ⟨k, hk, rfl⟩ := of_mem ((mem_drop x).1 hx).1
    exact h.good k hk
/-- Puts of different blobs: the order does not matter. -/
theorem put_comm {size : Nat} {l : List Bm} (hg : GoodS size l) {b c : Bm} (hb : GoodB size b) (hc : GoodB size c) (hne : b.id ≠ c.id) {i j i' j' : Nat} (h1 : PosOf l b.id i) (h2 : PosOf (putAt l i b) c.id j) (h3 : PosOf l c.id i') (h4 : PosOf (putAt l i' c) b.id j') : putAt (putAt l i b) j c = putAt (putAt l i' c) j' b := by
  have g1 := hg.put hb h1
  have g3 := hg.put hc h3
  refine pw_ext (g1.put hc h2).pw (g3.put hb h4).pw fun x => ?_
  rw [mem_put g1 h2, mem_put hg h1, mem_put g3 h4, mem_put hg h3]
  constructor
  · rintro (rfl | ⟨rfl | ⟨h, hn⟩, hm⟩)
    · exact .inr ⟨.inl rfl, fun e => hne e.symm⟩
    · exact .inl rfl
    · exact .inr ⟨.inr ⟨h, hm⟩, hn⟩
  · rintro (rfl | ⟨rfl | ⟨h, hn⟩, hm⟩)
    · exact .inr ⟨.inl rfl, hne⟩
    · exact .inl rfl
    · exact .inr ⟨.inr ⟨h, hm⟩, hn⟩
theorem nodup_sub : ∀ {xs ys : List Int}, xs.Nodup → (∀ x ∈ xs, x ∈ ys) → xs.length ≤ ys.length
  | [], _, _, _ => Nat.zero_le _
  | x :: xs, ys, hn, h => by
    rw [List.nodup_cons] at hn
    have hx := h x (by simp)
    have h1 := nodup_sub (xs := xs) (ys := ys.erase x) hn.2 fun y hy => by
      have hy2 := h y (by simp [hy])
      exact (List.mem_erase_of_ne (fun e => hn.1 (by rw [← e]; exact hy))).2 hy2
    rw [List.length_erase_of_mem hx] at h1
    have : 0 < ys.length := List.length_pos_of_mem hx
    simp
    omega
/-- The store and the map of what is wanted have the same numbers. -/
def Wants (l : List Bm) (f : Int → Option Bv) : Prop := ∀ id, f id ≠ none ↔ ∃ b ∈ l, b.id = id
def kI (n : Int) : Value := .int .i64 n
theorem chkI (x : Int) (e : Bool) (w : World) : (Instr.checkKey e 10000 3 (kI x)).run Try.prog w = .ok () w := by kernel_rfl
theorem eqI (x y : Int) (w : World) : (Op.equal 3 (kI x) (kI y)).run Try.prog w = .ok (decide (x = y)) w := by
  have h : (Op.equal 3 (kI x) (kI y)).run Try.prog w = .ok (x == y) w := by
    show (Op.equalIn 10000 3 (.int .i64 x) (.int .i64 y)).run Try.prog w = .ok (x == y) w
    go_simp
  rw [h]
  congr 1
theorem undI : ∃ d, Try.prog.underlying 3 = some d ∧ ((∀ x y, Instr.sameNow d (kI x) (kI y) = none) ∨ ∀ x y, Instr.sameNow d (kI x) (kI y) = some (decide (x = y))) := by
  refine ⟨_, Try.underlying3, .inr ?_⟩
  intro x y
  simp only [Instr.sameNow, kI, if_true]
  congr 1
theorem keepI (x : Int) (w : World) : (Instr.keyThatStays (kI x) (kI x)).run Try.prog w = .ok (kI x) w := by
  simp [Instr.keyThatStays, kI, Instr.sameBits]
theorem keyI : KeyOk Try.prog 3 kI := ⟨chkI, eqI, undI, keepI⟩
theorem MapG.len {α : Type} {kv : α → Value} {es : Array MapEntry} {clock : Nat} {M : List (α × Value)} (h : MapG kv es clock M) : es.size = M.length := by
  have := congrArg List.length h.kv
  simpa using this
theorem run_len_mapG {P : Program} {w : World} {t k e ty : TypeId} (ht : P.underlying t = some (.map k e)) {b : Nat} {es : Array MapEntry} {clock : Nat} (hb : w.heap[b]? = some (.map es clock)) : (Builtin.len_ #[t] ty #[.map (some b)]).run P w = .ok (goInt es.size) w := by
  have hg : (getObj b).run P w = .ok (.map es clock) w := by simp [getObj, Sem.run, hb]
  simp [Builtin.len_, run_underlying ht, hg]
theorem wants_len {size : Nat} {l : List Bm} (hg : GoodS size l) {f : Int → Option Bv} (hw : Wants l f) {M : List (Int × Value)} (hn : (M.map (·.1)).Nodup) (hf : ∀ x, getG x M = (f x).map vBv) : M.length = l.length := by
  have h1 : ∀ x, x ∈ M.map (·.1) ↔ f x ≠ none := fun x => by
    constructor
    · intro hx
      obtain ⟨p, hp, rfl⟩ := List.mem_map.1 hx
      have := (getG_mem hn (x := p.1) (v := p.2)).2 hp
      rw [hf] at this
      intro e; rw [e] at this; cases this
    · intro hx
      cases e : f x with
      | none => exact absurd e hx
      | some q =>
        have := hf x
        rw [e] at this
        exact List.mem_map.2 ⟨_, (getG_mem hn).1 this, rfl⟩
  have hl : (l.map (·.id)).Nodup := by
    show List.Pairwise (· ≠ ·) _
    rw [List.pairwise_map]
    exact hg.pw.imp fun h e => by omega
  have a1 := nodup_sub hn (ys := l.map (·.id)) fun x hx => by
    obtain ⟨b, hb, e⟩ := (hw x).1 ((h1 x).1 hx)
    exact List.mem_map.2 ⟨b, hb, e⟩
  have a2 := nodup_sub hl (ys := M.map (·.1)) fun x hx => by
    obtain ⟨b, hb, e⟩ := List.mem_map.1 hx
    exact (h1 x).2 ((hw x).2 ⟨b, hb, e⟩)
  simp at a1 a2
  omega
theorem wants_put {size : Nat} {l : List Bm} (hg : GoodS size l) {f : Int → Option Bv} (hw : Wants l f) {b : Bm} {i : Nat} (hp : PosOf l b.id i) (q : Bv) : Wants (putAt l i b) (fun x => if x = b.id then some q else f x) := fun id => by
  dsimp only
  by_cases h : id = b.id
  · rw [if_pos h]
    exact ⟨fun _ => ⟨b, (mem_put hg hp b).2 (.inl rfl), h.symm⟩, fun _ => by simp⟩
  · rw [if_neg h, hw]
    constructor
    · rintro ⟨c, hc, rfl⟩
      exact ⟨c, (mem_put hg hp c).2 (.inr ⟨hc, h⟩), rfl⟩
    · rintro ⟨c, hc, rfl⟩
      rcases (mem_put hg hp c).1 hc with e | ⟨h1, -⟩
      · exact absurd (by rw [e]) h
      · exact ⟨c, h1, rfl⟩
theorem wants_drop {l : List Bm} {f : Int → Option Bv} (hw : Wants l f) (d : Int) : Wants (dropAt l d) (fun x => if x = d then none else f x) := fun id => by
  dsimp only
  by_cases h : id = d
  · rw [if_pos h]
    refine ⟨fun h => absurd rfl h, ?_⟩
    rintro ⟨c, hc, e⟩
    exact absurd (e.trans h) ((mem_drop c).1 hc).2
  · rw [if_neg h, hw]
    constructor
    · rintro ⟨c, hc, rfl⟩; exact ⟨c, (mem_drop c).2 ⟨hc, h⟩, rfl⟩
    · rintro ⟨c, hc, rfl⟩; exact ⟨c, ((mem_drop c).1 hc).1, rfl⟩
/-- What is wanted lies in memory. -/
def WantAt (l : List Bm) (f : Int → Option Bv) (w : World) : Prop := ∀ b ∈ l, ∀ q, f b.id = some q → BlobAt w q b
theorem WantAt.put {size : Nat} {l : List Bm} (hg : GoodS size l) {f : Int → Option Bv} {b : Bm} {i : Nat} (hp : PosOf l b.id i) {q : Bv} {w : World} (h : WantAt l f w) (hq : BlobAt w q b) : WantAt (putAt l i b) (fun x => if x = b.id then some q else f x) w := fun c hc r hr => by
  dsimp only at hr
  rcases (mem_put hg hp c).1 hc with e | ⟨h1, h2⟩
  · subst e
    rw [if_pos rfl] at hr
    injection hr with hr
    subst hr; exact hq
  · rw [if_neg h2] at hr
    exact h c h1 r hr
theorem WantAt.drop {l : List Bm} {f : Int → Option Bv} {w : World} (h : WantAt l f w) (d : Int) : WantAt (dropAt l d) (fun x => if x = d then none else f x) w := fun c hc r hr => by
  obtain ⟨h1, h2⟩ := (mem_drop c).1 hc
  dsimp only at hr
  rw [if_neg h2] at hr
  exact h c h1 r hr
end Go.Proofs.Ytheccfiidollpaa
