/- Many things as one in the bundle; what a call hands back of several slices; a slice as a callee reads it. -/
import Derived.Test.YtfmcicmbehjdcaaRow
import Derived.Test.YtfmcicmbehjdcaaRowSet
import Derived.Deep.CutRange
import Derived.Deep.CutBlock
import Derived.Deep.RegionLaw
import Derived.Deep.RegionWith
namespace Go.Proofs.Ytfmcicmbehjdcaa
set_option linter.unusedSimpArgs false
set_option linter.unusedVariables false
open Go.RowKit

theorem Item.manyOk {R : List Item} {w : World} (h : ∀ A ∈ R, A.ok w) (h0 : ∀ A ∈ R, A.low = 0) (hd : Apart R) : (Item.many R).ok w :=
  ⟨⟨fun A hA => ⟨h A hA, h0 A hA⟩, hd⟩, fun k hk => by obtain ⟨A, hA, hf⟩ := hk; exact Item.lt (h A hA) hf,
   fun w' hw => ⟨fun A hA => ⟨Item.keep (h A hA) (fun k hk => hw k ⟨A, hA, hk⟩) (fun k hk => by rw [h0 A hA] at hk; exact absurd hk (Nat.not_lt_zero _)), h0 A hA⟩, hd⟩⟩
theorem Item.ofMany {R : List Item} {w : World} (h : (Item.many R).ok w) : (∀ A ∈ R, A.ok w ∧ A.low = 0) ∧ Apart R := h.1

section
variable {D : Nat → Prop} {W w w' : World} {L R : List Item}
theorem HS.permu {L' : List Item} (h : HS D W L w) (hp : L.Perm L') : HS D W L' w :=
  ⟨h.os, h.tape, h.output, h.size, h.old, fun A hA => h.ok A (hp.mem_iff.2 hA), fun A hA => h.own A (hp.mem_iff.2 hA), fun A hA => h.low A (hp.mem_iff.2 hA), h.dis.perm hp (fun hxy k hk hk' => hxy k hk' hk)⟩
theorem HS.toMany (h : HS D W (L ++ R) w) (h0 : ∀ A ∈ R, A.low = 0) : HS D W (L ++ [Item.many R]) w := by
  have hd := List.pairwise_append.1 h.dis
  refine ⟨h.os, h.tape, h.output, h.size, h.old, fun X hX => ?_, fun X hX k hk => ?_, fun X hX => ?_, List.pairwise_append.2 ⟨hd.1, List.pairwise_singleton _ _, fun X hX Y hY k hk hk' => ?_⟩⟩
  · rcases List.mem_append.1 hX with hX | hX
    · exact h.ok X (by simp [hX])
    · cases List.mem_singleton.1 hX; exact Item.manyOk (fun A hA => h.ok A (by simp [hA])) h0 hd.2.1
  · rcases List.mem_append.1 hX with hX | hX
    · exact h.own X (by simp [hX]) k hk
    · cases List.mem_singleton.1 hX
      obtain ⟨A, hA, hf⟩ := hk
      exact h.own A (by simp [hA]) k hf
  · rcases List.mem_append.1 hX with hX | hX
    · exact h.low X (by simp [hX])
    · cases List.mem_singleton.1 hX; exact ⟨Nat.zero_le _, fun k hk => absurd hk (Nat.not_lt_zero _)⟩
  · cases List.mem_singleton.1 hY
    obtain ⟨A, hA, hf⟩ := hk'
    exact hd.2.2 X hX A hA k hk hf
theorem HS.ofMany (h : HS D W (L ++ [Item.many R]) w) : HS D W (L ++ R) w := by
  have hd := List.pairwise_append.1 h.dis
  have hm := Item.ofMany (h.ok (Item.many R) (by simp))
  refine ⟨h.os, h.tape, h.output, h.size, h.old, fun X hX => ?_, fun X hX k hk => ?_, fun X hX => ?_, List.pairwise_append.2 ⟨hd.1, hm.2, fun X hX Y hY k hk hk' => ?_⟩⟩
  · rcases List.mem_append.1 hX with hX | hX
    · exact h.ok X (by simp [hX])
    · exact (hm.1 X hX).1
  · rcases List.mem_append.1 hX with hX | hX
    · exact h.own X (by simp [hX]) k hk
    · exact h.own (Item.many R) (by simp) k ⟨X, hX, hk⟩
  · rcases List.mem_append.1 hX with hX | hX
    · exact h.low X (by simp [hX])
    · rw [(hm.1 X hX).2]; exact ⟨Nat.zero_le _, fun k hk => absurd hk (Nat.not_lt_zero _)⟩
  · exact hd.2.2 X hX (Item.many R) (by simp) k hk ⟨Y, hY, hk'⟩
theorem erase_perm {α : Type} : ∀ {L : List α} {i : Nat} {x : α}, L[i]? = some x → L.Perm (L.eraseIdx i ++ [x])
  | [], i, x, h => by simp at h
  | y :: L, 0, x, h => by
    obtain rfl : y = x := by simpa using h
    exact (List.perm_append_singleton y L).symm
  | y :: L, i + 1, x, h => by
    have := erase_perm (L := L) (i := i) (x := x) (by simpa using h)
    exact List.Perm.cons y this
/-- A thing goes to the end. -/
theorem HS.last (h : HS D W L w) (i : Nat) {A : Item} (hi : L[i]? = some A) : HS D W (L.eraseIdx i ++ [A]) w := h.permu (erase_perm hi)
theorem HS.unmany (h : HS D W L w) (i : Nat) (hi : L[i]? = some (Item.many R)) : HS D W (L.eraseIdx i ++ R) w := (h.last i hi).ofMany
theorem low_ofMany (h : HS D W (L ++ [Item.many R]) w) : ∀ A ∈ R, A.low = 0 := fun A hA => ((Item.ofMany (h.ok (Item.many R) (by simp))).1 A hA).2
theorem HS.manyCons {A : Item} (h : HS D W L w) (i : Nat) (hi : L[i]? = some (Item.many (A :: R))) : HS D W (L.eraseIdx i ++ [A, Item.many R]) w := by
  have h1 := h.last i hi
  have h0 := low_ofMany h1
  have h2 := h1.ofMany
  rw [show L.eraseIdx i ++ A :: R = (L.eraseIdx i ++ [A]) ++ R by simp] at h2
  have h3 := h2.toMany fun X hX => h0 X (by simp [hX])
  simpa using h3
theorem HS.manyApp {R' : List Item} (h : HS D W L w) (i : Nat) (hi : L[i]? = some (Item.many (R ++ R'))) : HS D W (L.eraseIdx i ++ [Item.many R, Item.many R']) w := by
  have h1 := h.last i hi
  have h0 := low_ofMany h1
  have h2 := h1.ofMany
  rw [← List.append_assoc] at h2
  have h3 := h2.toMany fun X hX => h0 X (by simp [hX])
  rw [List.append_assoc] at h3
  have h4 := (h3.permu (List.perm_append_comm.append_left _ : (L.eraseIdx i ++ (R ++ [Item.many R'])).Perm (L.eraseIdx i ++ ([Item.many R'] ++ R))))
  rw [← List.append_assoc] at h4
  have h5 := h4.toMany fun X hX => h0 X (by simp [hX])
  rw [List.append_assoc] at h5
  exact h5.permu (List.perm_append_comm.append_left _)
/-- The things from n on, as one. -/
theorem HS.shut (h : HS D W L w) (n : Nat) (h0 : ∀ A ∈ L.drop n, A.low = 0) : HS D W (L.take n ++ [Item.many (L.drop n)]) w :=
  HS.toMany (by rw [List.take_append_drop]; exact h) h0
theorem HS.manyJoin {R' : List Item} (h : HS D W (L ++ [Item.many R, Item.many R']) w) : HS D W (L ++ [Item.many (R ++ R')]) w := by
  have h1 : HS D W ((L ++ [Item.many R]) ++ [Item.many R']) w := by simpa using h
  have h0 := low_ofMany h1
  have h2 : HS D W ((L ++ R') ++ [Item.many R]) w := by
    have := h1.ofMany.permu (show ((L ++ [Item.many R]) ++ R').Perm ((L ++ R') ++ [Item.many R]) by
      rw [List.append_assoc, List.append_assoc]; exact List.perm_append_comm.append_left _)
    exact this
  have h3 := low_ofMany h2
  have h4 := h2.ofMany.permu (show ((L ++ R') ++ R).Perm (L ++ (R ++ R')) by
    rw [List.append_assoc]; exact List.perm_append_comm.append_left _)
  exact h4.toMany fun A hA => by
    rcases List.mem_append.1 hA with hA | hA
    · exact h3 A hA
    · exact h0 A hA
theorem HS.manyEq {R' : List Item} (h : HS D W (L ++ [Item.many R]) w) (hp : R.Perm R') : HS D W (L ++ [Item.many R']) w :=
  (h.ofMany.permu (hp.append_left L)).toMany fun A hA => low_ofMany h A (hp.mem_iff.2 hA)
/-- What a call hands back, beside what one has. -/
theorem HS.join (H : HS D W L w) (K : HS NoD w R w') (h0 : ∀ A ∈ R, A.low = 0) : HS D W (L ++ R) w' := by
  have H' := H.below K.done
  refine ⟨H'.os, H'.tape, H'.output, H'.size, H'.old, fun X hX => ?_, fun X hX k hk => ?_, fun X hX => ?_, List.pairwise_append.2 ⟨H'.dis, K.dis, fun X hX Y hY k hk hk' => ?_⟩⟩
  · rcases List.mem_append.1 hX with hX | hX
    · exact H'.ok X hX
    · exact K.ok X hX
  · rcases List.mem_append.1 hX with hX | hX
    · exact H'.own X hX k hk
    · exact .inl (Nat.le_trans H.size ((K.own X hX k hk).resolve_right id))
  · rcases List.mem_append.1 hX with hX | hX
    · exact H'.low X hX
    · rw [h0 X hX]; exact ⟨Nat.zero_le _, fun k hk => absurd hk (Nat.not_lt_zero _)⟩
  · have h1 := H.lts X hX k hk
    have h2 := (K.own Y hY k hk').resolve_right id
    omega
theorem HS.join1 (H : HS D W L w) (K : HS NoD w [Item.many R] w') : HS D W (L ++ [Item.many R]) w' := H.join K fun A hA => by cases List.mem_singleton.1 hA; rfl
/-- The same of a call that may turn the stream. -/
theorem HS.joinDice (H : HS D W L w) (i : Nat) {B b : Nat} (hi : L[i]? = some (.dice B b)) (K : HS (OneD b) w (.dice B b :: R) w') (h0 : ∀ A ∈ R, A.low = 0) : HS D W (L ++ R) w' := by
  have H' := H.diceAt i hi K.doneDice (K.ok (.dice B b) (by simp))
  have hd := List.pairwise_cons.1 K.dis
  have fresh : ∀ Y ∈ R, ∀ k, Y.fp k → w.heap.size ≤ k := fun Y hY k hk => by
    rcases K.own Y (by simp [hY]) k hk with h | h
    · exact h
    · exact absurd hk (hd.1 Y hY k h)
  refine ⟨H'.os, H'.tape, H'.output, H'.size, H'.old, fun X hX => ?_, fun X hX k hk => ?_, fun X hX => ?_, List.pairwise_append.2 ⟨H'.dis, hd.2, fun X hX Y hY k hk hk' => ?_⟩⟩
  · rcases List.mem_append.1 hX with hX | hX
    · exact H'.ok X hX
    · exact K.ok X (by simp [hX])
  · rcases List.mem_append.1 hX with hX | hX
    · exact H'.own X hX k hk
    · exact .inl (Nat.le_trans H.size (fresh X hX k hk))
  · rcases List.mem_append.1 hX with hX | hX
    · exact H'.low X hX
    · rw [h0 X hX]; exact ⟨Nat.zero_le _, fun k hk => absurd hk (Nat.not_lt_zero _)⟩
  · have h1 := H.lts X hX k hk
    have h2 := fresh Y hY k hk'
    omega
end

/-- A cell of a slice of one's own: what is there, and that it may be stored to. -/
theorem HS.rowCells {D : Nat → Prop} {W w : World} {L : List Item} (h : HS D W L w) (i : Nat) {g n cap k : Nat} {e : TypeId} {xs : List Value} (hi : L[i]? = some (.row (.slice (some ⟨g, 0, none⟩) n cap) e k n xs)) (j : Nat) (hj : j < n * k) : w.cell? ⟨g, j, none⟩ = xs[j]? ∧ w.frozen? ⟨g, j, none⟩ = false := by
  have h1 : w.ownsRow 0 e k (.slice (some ⟨g, 0, none⟩) n cap) n xs := h.at i hi
  refine ⟨World.ownsRow.cellAt h1 j hj, ?_⟩
  rcases h1.2 with ⟨h2, h3⟩ | ⟨g', cap', cur, hv, hg, hh, r⟩
  · cases h2
  · injection hv with e1 e2 e3
    injection e1 with e1
    injection e1 with e1
    subst e1
    exact Blk.free (show Blk w g cur e from hh) _
/-! ### A slice as a callee reads it -/
/-- The value v is a slice whose elements, below block B, are xs. -/
def Sl {α : Type} [Inhabited α] (w : World) (B : Nat) (v : Value) (k : Nat) (enc : α → List Value) (xs : List α) : Prop :=
  ∃ sa c, v = .slice sa xs.length c ∧ (xs.length ≤ c ∧ (sa = none → c = 0)) ∧ Lies w B sa k xs.length (fun j => enc xs[j]!)
theorem Sl.mono {α : Type} [Inhabited α] {w : World} {B B' k : Nat} {v : Value} {enc : α → List Value} {xs : List α} (h : Sl w B v k enc xs) (hb : B ≤ B') : Sl w B' v k enc xs := by
  obtain ⟨sa, c, e, hc, hl⟩ := h
  exact ⟨sa, c, e, hc, hl.mono hb⟩
theorem Sl.below {α : Type} [Inhabited α] {w w' : World} {B k : Nat} {v : Value} {enc : α → List Value} {xs : List α} (h : Sl w B v k enc xs) (hB : B ≤ w.heap.size) (hb : Below w.heap.size w w') : Sl w' B v k enc xs := by
  obtain ⟨sa, c, e, hc, hl⟩ := h
  exact ⟨sa, c, e, hc, hl.below hB hb⟩
theorem HS.sl {W w : World} {L : List Item} (h : HS NoD W L w) {α : Type} [Inhabited α] {k : Nat} {v : Value} {enc : α → List Value} {xs : List α} (hl : Sl W W.heap.size v k enc xs) : Sl w W.heap.size v k enc xs := by
  obtain ⟨sa, c, e, hc, hl⟩ := hl
  exact ⟨sa, c, e, hc, h.lies hl⟩
theorem HS.slUp {W w : World} {L : List Item} (h : HS NoD W L w) {α : Type} [Inhabited α] {k : Nat} {v : Value} {enc : α → List Value} {xs : List α} (hl : Sl W W.heap.size v k enc xs) : Sl w w.heap.size v k enc xs := (h.sl hl).mono h.size
theorem ownsRow_cap {w : World} {B k n : Nat} {e : TypeId} {v : Value} {cs : List Value} (h : w.ownsRow B e k v n cs) : ∃ sa c, v = .slice sa n c ∧ (n ≤ c ∧ (sa = none → c = 0)) := by
  obtain ⟨h1, h2⟩ := h
  rcases h2 with ⟨h2, h3⟩ | ⟨g, cap, cur, hv, hg, hh, hle, r⟩
  · exact ⟨none, 0, by rw [h2, h3], by omega, fun _ => rfl⟩
  · exact ⟨_, _, hv, hle, fun e => by cases e⟩
theorem ownsRow_sl {α : Type} [Inhabited α] {enc : α → List Value} {k : Nat} (hk : ∀ x, (enc x).length = k) {w : World} {B n : Nat} {e : TypeId} {v : Value} {xs : List α} (hn : n = xs.length) (h : w.ownsRow B e k v n (xs.flatMap enc)) : Sl w w.heap.size v k enc xs := by
  subst hn
  obtain ⟨sa, c, rfl, hc⟩ := ownsRow_cap h
  exact ⟨sa, c, rfl, hc, ownsRow_lies hk rfl h⟩
theorem Sl.nil {α : Type} [Inhabited α] (w : World) (B k : Nat) (enc : α → List Value) : Sl w B (.slice none 0 0) k enc ([] : List α) := ⟨none, 0, rfl, ⟨Nat.zero_le _, fun _ => rfl⟩, Lies.nil0⟩
end Go.Proofs.Ytfmcicmbehjdcaa
