/- A region that draws its order: as XLit, and what is known of memory (the list of XHeap's bundle) may turn from call to call: appends and calls that hand back slices, beside new variables and literal slices. -/
import Derived.Test.YtfmcicmbehjdcaaLit
import Derived.Test.YtfmcicmbehjdcaaAppR
namespace Go.Proofs.Ytfmcicmbehjdcaa
set_option linter.unusedSimpArgs false
set_option linter.unusedVariables false
open Go.RowKit

/-- What is known at a time within the region. -/
structure ClH (St : Nat → Prop) (D : Nat → Prop) (W w0 : World) (F : Fl) (L : List Item) (w : World) : Prop where
  same : Same St w0 w
  hs : HS D W L w
  size : w0.heap.size ≤ w.heap.size
  laid : ∀ b x, F b = some x → w0.heap.size ≤ b ∧ Blk w b x.1 x.2 ∧ ∀ A ∈ L, ¬ A.fp b
/-- What a call leaves: all blocks that are not of the list; what the list is of anew is new. -/
def KeepL (L L' : List Item) (w0 w w' : World) : Prop := (∀ k, w0.heap.size ≤ k → k < w.heap.size → (∀ A ∈ L, ¬ A.fp k) → w'.heap[k]? = w.heap[k]?) ∧ ∀ A ∈ L', ∀ k, A.fp k → (∃ B ∈ L, B.fp k) ∨ w.heap.size ≤ k

section
variable (P : Program) (St D : Nat → Prop) (W w0 : World)
/-- One operation, seen without the world. -/
def stepH (ops : Array Oper) (o : Oper) (K : Act → Fl → List Item → Prop) (a : Act) (F : Fl) (L : List Item) : Prop :=
  if Region.wanted o (yielded ops a.tmps) = true then
    match fkG o.op with
    | .pure => okOp P o = true → ∃ v, PureG P St w0 F o v a ∧ K (a.put o.dst v) F L
    | .call => ∀ w, ClH St D W w0 F L w → o.wp P a w (fun a' w' => ∃ L', ClH St D W w0 F L' w' ∧ KeepL L L' w0 w w' ∧ K a' F L') (fun _ _ _ => False)
    | .float => ∃ (z : Array Value) (t : TypeId) (mk : Nat → Value), (∀ w, (execOp a.eval o).run P w = .ok (.value (mk w.heap.size)) (w.alloc (.cells z t))) ∧ ∀ b, w0.heap.size ≤ b → F b = none → (∃ w, ClH St D W w0 (F.put b (z, t)) L w) → K (a.put o.dst (mk b)) (F.put b (z, t)) L
    | .store => ∃ b old cs t, F b = some (old, t) ∧ (∀ w, ClH St D W w0 F L w → (execOp a.eval o).run P w = .ok .skip (w.setRow b cs)) ∧ K (a.put o.dst undef) (F.put b (cs, t)) L
  else K (a.put o.dst undef) F L
def wpH (ops : Array Oper) (Q : Act → Fl → List Item → Prop) : List Oper → Act → Fl → List Item → Prop
  | [], a, F, L => Q a F L
  | o :: l, a, F, L => stepH P St D W w0 ops o (wpH ops Q l) a F L
end

section
variable {P : Program} {ops : Array Oper} {St D : Nat → Prop} {W w0 : World}

theorem LookG.runH {F : Fl} {L : List Item} {o : Oper} {v : Value} {a : Act} (h : LookG P F o v a) {w : World} (hc : ClH St D W w0 F L w) : (execOp a.eval o).run P w = .ok (.value v) w := by
  obtain ⟨h1, b, cs, t, h2, h3, h4⟩ := h
  exact h3 w (hc.laid b _ h2).2.1
theorem PureG.runH {F : Fl} {L : List Item} {o : Oper} {v : Value} {a : Act} (h : PureG P St w0 F o v a) {w : World} (hc : ClH St D W w0 F L w) : (execOp a.eval o).run P w = .ok (.value v) w := by
  rcases h with h | h
  · exact h w hc.same
  · exact h.runH hc
theorem ClH.new_none {F : Fl} {L : List Item} {w : World} (h : ClH St D W w0 F L w) {k : Nat} (hk : w.heap.size ≤ k) : F k = none := by
  cases hF : F k with
  | none => rfl
  | some x => exact absurd (h.laid _ _ hF).2.1.lt (by omega)
theorem ClH.alloc {F : Fl} {L : List Item} {w : World} (hst : ∀ k, St k → k < w0.heap.size) (h : ClH St D W w0 F L w) (z : Array Value) (t : TypeId) : ClH St D W w0 (F.put w.heap.size (z, t)) L (w.alloc (.cells z t)) := by
  refine ⟨fun k hk => (Below.heap_alloc _ _ _ (Nat.lt_of_lt_of_le (hst k hk) h.size)).trans (h.same k hk), h.hs.skipAlloc, by simpa using Nat.le_succ_of_le h.size, fun b x hb => ?_⟩
  unfold Fl.put at hb
  by_cases hbe : b = w.heap.size
  · rw [if_pos hbe] at hb
    cases hb
    exact ⟨by rw [hbe]; exact h.size, by rw [hbe]; exact Blk.new w z t, fun A hA hf => by have := h.hs.lts A hA _ hf; omega⟩
  · rw [if_neg hbe] at hb
    obtain ⟨h1, h2, h3⟩ := h.laid b x hb
    exact ⟨h1, h2.alloc _, h3⟩
theorem ClH.setRow {F : Fl} {L : List Item} {w : World} (hW : W.heap.size ≤ w0.heap.size) (hst : ∀ k, St k → k < w0.heap.size) (h : ClH St D W w0 F L w) {b : Nat} {old cs : Array Value} {t : TypeId} (hb : F b = some (old, t)) : ClH St D W w0 (F.put b (cs, t)) L (w.setRow b cs) := by
  have hN := (h.laid b _ hb).1
  have hf := (h.laid b _ hb).2.2
  refine ⟨fun k hk => (heap_setRow_other _ _ _ _ (by have := hst k hk; omega)).trans (h.same k hk), h.hs.turn rfl rfl rfl (by rw [size_setRow]; exact Nat.le_refl _) fun k hk hh => heap_setRow_other _ _ _ _ (by
      rcases hh with ⟨A, hA, hfk⟩ | ⟨hk, _⟩
      · exact fun e => hf A hA (e ▸ hfk)
      · omega), by rw [size_setRow]; exact h.size, fun c x hc => ?_⟩
  unfold Fl.put at hc
  by_cases hcb : c = b
  · rw [if_pos hcb] at hc
    cases hc
    subst hcb
    exact ⟨hN, (h.laid _ _ hb).2.1.setRow cs, hf⟩
  · rw [if_neg hcb] at hc
    obtain ⟨h1, h2, h3⟩ := h.laid c x hc
    exact ⟨h1, (heap_setRow_other _ _ _ _ hcb).trans h2, h3⟩
theorem ClH.less {F : Fl} {L : List Item} {w : World} {b : Nat} {x : Array Value × TypeId} (hb : F b = none) (h : ClH St D W w0 (F.put b x) L w) : ClH St D W w0 F L w :=
  ⟨h.same, h.hs, h.size, fun c y hc => h.laid c y (by
    unfold Fl.put
    by_cases hcb : c = b
    · rw [hcb, hb] at hc; cases hc
    · rw [if_neg hcb]; exact hc)⟩
theorem stepH_mono {o : Oper} {K K' : Act → Fl → List Item → Prop} (hk : ∀ a F L, K a F L → K' a F L) {a : Act} {F : Fl} {L : List Item} (h : stepH P St D W w0 ops o K a F L) : stepH P St D W w0 ops o K' a F L := by
  unfold stepH at *
  split
  · rename_i hw
    rw [if_pos hw] at h
    split <;> rename_i hf <;> rw [hf] at h <;> simp only at h
    · intro hok; obtain ⟨v, h1, h2⟩ := h hok; exact ⟨v, h1, hk _ _ _ h2⟩
    · exact fun w hw => Oper.wp_mono (fun a w h => by obtain ⟨L', h1, h2, h3⟩ := h; exact ⟨L', h1, h2, hk _ _ _ h3⟩) (h w hw)
    · obtain ⟨z, t, mk, h1, h2⟩ := h; exact ⟨z, t, mk, h1, fun b hb hn hx => hk _ _ _ (h2 b hb hn hx)⟩
    · obtain ⟨b, old, cs, t, h1, h2, h3⟩ := h; exact ⟨b, old, cs, t, h1, h2, hk _ _ _ h3⟩
  · rename_i hw; rw [if_neg hw] at h; exact hk _ _ _ h

theorem putsH {o : Oper} {v : Value} {a : Act} {F : Fl} {L : List Item} (h : PutsG P St w0 ops F o v a) {K : Act → Fl → List Item → Prop} (hK : K (a.put o.dst v) F L) : stepH P St D W w0 ops o K a F L := by
  unfold stepH
  rcases h with ⟨h1, h2, h3⟩ | ⟨h1, rfl⟩
  · rw [if_pos h1, h2]; exact fun _ => ⟨v, h3, hK⟩
  · rw [if_neg (by rw [h1]; simp)]; exact hK
theorem stepH_cases {o : Oper} (hok : okOp P o = true) {K : Act → Fl → List Item → Prop} {a : Act} {F : Fl} {L : List Item} (h : stepH P St D W w0 ops o K a F L) :
    (∃ v, PutsG P St w0 ops F o v a ∧ K (a.put o.dst v) F L) ∨ (Region.wanted o (yielded ops a.tmps) = true ∧ fkG o.op ≠ .pure) := by
  unfold stepH at h
  by_cases hw : Region.wanted o (yielded ops a.tmps) = true
  · rw [if_pos hw] at h
    cases hf : fkG o.op with
    | pure =>
      rw [hf] at h
      obtain ⟨v, h1, h2⟩ := h hok
      exact .inl ⟨v, .inl ⟨hw, hf, h1⟩, h2⟩
    | _ => exact .inr ⟨hw, by simp⟩
  · rw [if_neg hw] at h
    exact .inl ⟨undef, .inr ⟨by simpa using hw, rfl⟩, h⟩
theorem stepH_put {o : Oper} (hs : ∀ cs b, o.op ≠ .select cs b) {d : Option Tmp} (h1 : ∀ t, d = some t → t ∉ o.looksAt ops) (h2 : ∀ t, d = some t → o.dst ≠ some t) (v : Value) {a : Act} {F : Fl} {L : List Item} {K : Act → Fl → List Item → Prop} :
    stepH P St D W w0 ops o K (a.put d v) F L ↔ stepH P St D W w0 ops o (fun a' F' L' => K (a'.put d v) F' L') a F L := by
  have he := execOp_put (ops := ops) o hs a d v h1
  have hy : ∀ u, PureG P St w0 F o u (a.put d v) ↔ PureG P St w0 F o u a := fun u =>
    ⟨fun h => h.of_same he.symm, fun h => h.of_same he⟩
  unfold stepH
  rw [wanted_put o a d v h1]
  split
  · split
    · constructor
      · intro h hok; obtain ⟨u, hu, hk⟩ := h hok; exact ⟨u, (hy u).1 hu, by rw [Act.put_comm a v u h2] at hk; exact hk⟩
      · intro h hok; obtain ⟨u, hu, hk⟩ := h hok; exact ⟨u, (hy u).2 hu, by rw [Act.put_comm a v u h2]; exact hk⟩
    · constructor
      · intro h w hw; exact (wp_put hs h1 h2 v).1 (h w hw)
      · intro h w hw; exact (wp_put hs h1 h2 v).2 (h w hw)
    · rw [he]
      constructor
      · rintro ⟨z, t, mk, hr, hk⟩; exact ⟨z, t, mk, hr, fun b hb hn hx => by have := hk b hb hn hx; rw [Act.put_comm a v _ h2] at this; exact this⟩
      · rintro ⟨z, t, mk, hr, hk⟩; exact ⟨z, t, mk, hr, fun b hb hn hx => by rw [Act.put_comm a v _ h2]; exact hk b hb hn hx⟩
    · rw [he]
      constructor
      · rintro ⟨b, old, cs, t, hb, hr, hk⟩; exact ⟨b, old, cs, t, hb, hr, by rw [Act.put_comm a v _ h2] at hk; exact hk⟩
      · rintro ⟨b, old, cs, t, hb, hr, hk⟩; exact ⟨b, old, cs, t, hb, hr, by rw [Act.put_comm a v _ h2]; exact hk⟩
  · rw [Act.put_comm a v undef h2]

/-- What is known behind a step. -/
def BehindH (P : Program) (St D : Nat → Prop) (W w0 : World) (o : Oper) (a : Act) (F : Fl) (a' : Act) (F' : Fl) (L' : List Item) : Prop :=
  (∃ u, a'.tmps = (a.put o.dst u).tmps) ∧ (∃ w, ClH St D W w0 F' L' w) ∧ (fkG o.op = .store ∨ ∀ b x, F b = some x → F' b = some x)
theorem stepH_info {o : Oper} {K : Act → Fl → List Item → Prop} {a : Act} {F : Fl} {L : List Item} {w1 : World} (hW : W.heap.size ≤ w0.heap.size) (hst : ∀ k, St k → k < w0.heap.size) (hc : ClH St D W w0 F L w1) (h : stepH P St D W w0 ops o K a F L) :
    stepH P St D W w0 ops o (fun a' F' L' => BehindH P St D W w0 o a F a' F' L' ∧ K a' F' L') a F L := by
  unfold stepH at *
  split
  · rename_i hw
    rw [if_pos hw] at h
    split <;> rename_i hf <;> rw [hf] at h <;> simp only at h
    · intro hok; obtain ⟨v, h1, h2⟩ := h hok; exact ⟨v, h1, ⟨⟨v, rfl⟩, ⟨w1, hc⟩, .inr fun _ _ h => h⟩, h2⟩
    · exact fun w hw => Oper.wp_mono (fun a w h => by obtain ⟨h0, L', h1, h2, h3⟩ := h; exact ⟨L', h1, h2, ⟨h0, ⟨_, h1⟩, .inr fun _ _ h => h⟩, h3⟩) (wp_info (h w hw))
    · obtain ⟨z, t, mk, h1, h2⟩ := h
      exact ⟨z, t, mk, h1, fun b hb hn hx => ⟨⟨⟨_, rfl⟩, hx, .inr (Fl.put_new hn _)⟩, h2 b hb hn hx⟩⟩
    · obtain ⟨b, old, cs, t, h1, h2, h3⟩ := h
      exact ⟨b, old, cs, t, h1, h2, ⟨⟨_, rfl⟩, ⟨_, hc.setRow hW hst h1⟩, .inl hf⟩, h3⟩
  · rename_i hw; rw [if_neg hw] at h; exact ⟨⟨⟨undef, rfl⟩, ⟨w1, hc⟩, .inr fun _ _ h => h⟩, h⟩

/-- Some way through an operation that is not pure. -/
theorem stepH_wit {o : Oper} {K : Act → Fl → List Item → Prop} {a : Act} {F : Fl} {L : List Item} (hw : Region.wanted o (yielded ops a.tmps) = true) (hnp : fkG o.op ≠ .pure) {w1 : World} (hW : W.heap.size ≤ w0.heap.size) (hst : ∀ k, St k → k < w0.heap.size) (hc : ClH St D W w0 F L w1) (h : stepH P St D W w0 ops o K a F L) :
    ∃ a' F' L', BehindH P St D W w0 o a F a' F' L' ∧ K a' F' L' := by
  have h := stepH_info hW hst hc h
  unfold stepH at h
  rw [if_pos hw] at h
  cases hf : fkG o.op with
  | pure => exact absurd hf hnp
  | call => rw [hf] at h; obtain ⟨a', w', L', _, _, hh⟩ := wp_wit (h w1 hc); exact ⟨a', F, L', hh⟩
  | float =>
    rw [hf] at h
    obtain ⟨z, t, mk, _, h2⟩ := h
    exact ⟨_, _, _, h2 w1.heap.size hc.size (hc.new_none (Nat.le_refl _)) ⟨_, hc.alloc hst z t⟩⟩
  | store => rw [hf] at h; obtain ⟨b, old, cs, t, _, _, h3⟩ := h; exact ⟨_, _, _, h3⟩
/-- What a pure operation puts behind an operation that is not, it puts ahead of it. -/
theorem stepH_pure {oi oj : Oper} {K : Act → Fl → List Item → Prop} {a : Act} {F : Fl} {L : List Item} (hw : Region.wanted oi (yielded ops a.tmps) = true) (hnp : fkG oi.op ≠ .pure) (hld : fkG oi.op = .store → isLd oj.op = false) {w1 : World} (hW : W.heap.size ≤ w0.heap.size) (hst : ∀ k, St k → k < w0.heap.size) (hc : ClH St D W w0 F L w1)
    (h : stepH P St D W w0 ops oi K a F L) (hin : ∀ a' F' L', BehindH P St D W w0 oi a F a' F' L' ∧ K a' F' L' → ∃ v, PureG P St w0 F' oj v a) : ∃ v, PureG P St w0 F oj v a := by
  have hi := stepH_info hW hst hc h
  cases hf : fkG oi.op with
  | pure => exact absurd hf hnp
  | call =>
    unfold stepH at hi
    rw [if_pos hw, hf] at hi
    obtain ⟨a', w', L', _, _, hh⟩ := wp_wit (hi w1 hc)
    exact hin a' F L' hh
  | store =>
    obtain ⟨a', F', L', hh⟩ := stepH_wit hw hnp hW hst hc h
    obtain ⟨v, hv⟩ := hin a' F' L' hh
    rcases hv with hv | hv
    · exact ⟨v, .inl hv⟩
    · have := hv.1; rw [hld hf] at this; cases this
  | float =>
    unfold stepH at hi
    rw [if_pos hw, hf] at hi
    obtain ⟨z, t, mk, h1, h2⟩ := hi
    have c1 := hc.alloc hst z t
    have hn1 : F w1.heap.size = none := hc.new_none (Nat.le_refl _)
    have c2 := (c1.less hn1).alloc hst z t
    have hs2 : (w1.alloc (.cells z t)).heap.size = w1.heap.size + 1 := by simp
    rw [hs2] at c2
    have hn2 : F (w1.heap.size + 1) = none := hc.new_none (Nat.le_succ _)
    obtain ⟨v1, hv1⟩ := hin _ _ _ (h2 w1.heap.size hc.size hn1 ⟨_, c1⟩)
    obtain ⟨v2, hv2⟩ := hin _ _ _ (h2 (w1.heap.size + 1) (Nat.le_succ_of_le hc.size) hn2 ⟨_, c2⟩)
    rcases hv1 with hv1 | hv1
    · exact ⟨v1, .inl hv1⟩
    · rcases hv2 with hv2 | hv2
      · exact ⟨v2, .inl hv2⟩
      · obtain ⟨l1, b1, cs1, t1, e1, r1, x1⟩ := hv1
        obtain ⟨l2, b2, cs2, t2, e2, r2, x2⟩ := hv2
        by_cases d1 : b1 = w1.heap.size
        · by_cases d2 : b2 = w1.heap.size + 1
          · exfalso
            have hb1 := (c1.laid b1 _ e1).2.1
            exact x2 (w1.alloc (.cells z t)) _ _ (by rw [d2]; exact Array.getElem?_eq_none (by simp)) (r1 _ hb1)
          · refine ⟨v2, .inr ⟨l2, b2, cs2, t2, ?_, r2, x2⟩⟩
            unfold Fl.put at e2; rwa [if_neg d2] at e2
        · refine ⟨v1, .inr ⟨l1, b1, cs1, t1, ?_, r1, x1⟩⟩
          unfold Fl.put at e1; rwa [if_neg d1] at e1

theorem swapH {oi oj : Oper} (hsi : ∀ cs b, oi.op ≠ .select cs b) (hsj : ∀ cs b, oj.op ≠ .select cs b) (hoki : okOp P oi = true) (hokj : okOp P oj = true)
    (hap : oi.apart ops oj = true) (hpr : pairG oi.op oj.op = true) {K : Act → Fl → List Item → Prop} {a : Act} {F : Fl} {L : List Item} {w1 : World} (hW : W.heap.size ≤ w0.heap.size) (hst : ∀ k, St k → k < w0.heap.size) (hc : ClH St D W w0 F L w1)
    (h : stepH P St D W w0 ops oi (stepH P St D W w0 ops oj K) a F L) : stepH P St D W w0 ops oj (stepH P St D W w0 ops oi K) a F L := by
  obtain ⟨a1, a2, a3⟩ := Oper.apart_spec hap
  have a2' : ∀ t, oj.dst = some t → oi.dst ≠ some t := fun t ht hh => a2 t hh ht
  rcases stepH_cases hoki h with ⟨v, hv, hk⟩ | ⟨hwi, hnpi⟩
  · refine stepH_mono (fun a' F' L' hh => ?_) (stepH_info hW hst hc ((stepH_put hsj a1 a2 v).1 hk))
    obtain ⟨⟨⟨u, hu⟩, -, hext⟩, hk'⟩ := hh
    refine putsH (hv.move hsi hu a3 fun hld => ?_) hk'
    rcases hext with hext | hext
    · exfalso; simp [pairG, hext, hld] at hpr
    · exact hext
  · have h0 := stepH_info hW hst hc h
    have hput : ∀ v, (∀ a' F' L', BehindH P St D W w0 oi a F a' F' L' ∧ stepH P St D W w0 ops oj K a' F' L' → K (a'.put oj.dst v) F' L') → stepH P St D W w0 ops oi K (a.put oj.dst v) F L := fun v hv =>
      (stepH_put hsi (d := oj.dst) a3 a2' v).2 (stepH_mono hv h0)
    by_cases hwj : Region.wanted oj (yielded ops a.tmps) = true
    · have hwj' : ∀ a' : Act, (∃ u, a'.tmps = (a.put oi.dst u).tmps) → Region.wanted oj (yielded ops a'.tmps) = true := by
        rintro a' ⟨u, hu⟩; rw [hu, wanted_put oj a oi.dst u a1]; exact hwj
      have hej : ∀ a' : Act, (∃ u, a'.tmps = (a.put oi.dst u).tmps) → execOp a'.eval oj = execOp a.eval oj := by
        rintro a' ⟨u, hu⟩; exact exec_tmps hsj hu a1
      cases hfj : fkG oj.op with
      | pure =>
        have hin : ∀ (a' : Act) (F' : Fl) (L' : List Item), BehindH P St D W w0 oi a F a' F' L' ∧ stepH P St D W w0 ops oj K a' F' L' → ∃ v, PureG P St w0 F' oj v a ∧ K (a'.put oj.dst v) F' L' := by
          rintro a' F' L' ⟨hu, hk⟩
          unfold stepH at hk
          rw [if_pos (hwj' a' hu.1), hfj] at hk
          obtain ⟨v, h1, h2⟩ := hk hokj
          exact ⟨v, PureG.of_same h1 (hej a' hu.1).symm, h2⟩
        have hld : fkG oi.op = .store → isLd oj.op = false := fun hs => by
          cases hb : isLd oj.op with
          | false => rfl
          | true => exfalso; simp [pairG, hs, hb] at hpr
        obtain ⟨v, hv⟩ := stepH_pure (oj := oj) hwi hnpi hld hW hst hc h (fun a' F' L' hh => by obtain ⟨v, hv, _⟩ := hin a' F' L' hh; exact ⟨v, hv⟩)
        refine putsH (.inl ⟨hwj, hfj, hv⟩) (hput v fun a' F' L' hh => ?_)
        obtain ⟨v', hv', hk⟩ := hin a' F' L' hh
        obtain ⟨-, ⟨w, hw⟩, hext⟩ := hh.1
        have hvF : PureG P St w0 F' oj v a := hv.ext fun hb => by
          rcases hext with hs | hext
          · rw [hld hs] at hb; cases hb
          · exact hext
        have e1 := hvF.runH hw
        rw [hv'.runH hw] at e1
        simp only [Result.ok.injEq, Next.value.injEq, and_true] at e1
        rw [← e1]
        exact hk
      | call => exfalso; simp [pairG, hfj, hnpi] at hpr
      | store => exfalso; simp [pairG, hfj, hnpi] at hpr
      | float =>
        have hin : ∀ (a' : Act) (F' : Fl) (L' : List Item), (∃ u, a'.tmps = (a.put oi.dst u).tmps) ∧ stepH P St D W w0 ops oj K a' F' L' → ∃ (z : Array Value) (t : TypeId) (mk : Nat → Value), (∀ w, (execOp a.eval oj).run P w = .ok (.value (mk w.heap.size)) (w.alloc (.cells z t))) ∧
            ∀ b, w0.heap.size ≤ b → F' b = none → (∃ w, ClH St D W w0 (F'.put b (z, t)) L' w) → K (a'.put oj.dst (mk b)) (F'.put b (z, t)) L' := by
          rintro a' F' L' ⟨hu, hk⟩
          unfold stepH at hk
          rw [if_pos (hwj' a' hu), hfj] at hk
          obtain ⟨z, t, mk, h1, h2⟩ := hk
          exact ⟨z, t, mk, fun w => by rw [← hej a' hu]; exact h1 w, h2⟩
        obtain ⟨a', F', L', hu, hh⟩ := stepH_wit hwi hnpi hW hst hc h0
        obtain ⟨z, t, mk, hz, _⟩ := hin a' F' L' ⟨hu.1, hh.2⟩
        have huniq : ∀ z' t' (mk' : Nat → Value), (∀ w, (execOp a.eval oj).run P w = .ok (.value (mk' w.heap.size)) (w.alloc (.cells z' t'))) → z' = z ∧ t' = t ∧ mk' = mk := fun z' t' mk' hz' => by
          have := hz' w1
          rw [hz w1] at this
          simp only [Result.ok.injEq, World.alloc, World.mk.injEq, Array.push_eq_push] at this
          have hzt : z' = z ∧ t' = t := by
            have h9 : mk w1.heap.size = mk' w1.heap.size ∧ z = z' ∧ t = t' := by simpa using this
            exact ⟨h9.2.1.symm, h9.2.2.symm⟩
          refine ⟨hzt.1, hzt.2, funext fun n => ?_⟩
          have hn := hz' { w1 with heap := Array.replicate n (.cells #[] 0) }
          rw [hz] at hn
          simp only [Result.ok.injEq, Next.value.injEq, Array.size_replicate] at hn
          exact hn.1.symm
        unfold stepH
        rw [if_pos hwj, hfj]
        refine ⟨z, t, mk, hz, fun b hb hn hx => ?_⟩
        refine (stepH_put hsi (d := oj.dst) a3 a2' _).2 ?_
        -- i, with block b laid already
        unfold stepH at h0 ⊢
        rw [if_pos hwi] at h0 ⊢
        cases hfi : fkG oi.op with
        | pure => exact absurd hfi hnpi
        | call =>
          rw [hfi] at h0
          intro w hw
          have hbl := hw.laid b (z, t) (by unfold Fl.put; simp)
          refine Oper.wp_mono (fun a' w' hh => ?_) (h0 w (hw.less hn))
          obtain ⟨L', hC, hkeep, hh⟩ := hh
          obtain ⟨z', t', mk', hz', hk⟩ := hin a' F L' ⟨hh.1.1, hh.2⟩
          obtain ⟨rfl, rfl, rfl⟩ := huniq z' t' mk' hz'
          have hC' : ClH St D W w0 (F.put b (z', t')) L' w' := by
            refine ⟨hC.same, hC.hs, hC.size, fun c x hx => ?_⟩
            unfold Fl.put at hx
            by_cases hcb : c = b
            · rw [if_pos hcb] at hx
              cases hx
              subst hcb
              refine ⟨hb, (hkeep.1 c hb hbl.2.1.lt hbl.2.2).trans hbl.2.1, fun A hA hf => ?_⟩
              rcases hkeep.2 A hA c hf with ⟨B, hB, hBf⟩ | h
              · exact hbl.2.2 B hB hBf
              · have := hbl.2.1.lt; omega
            · rw [if_neg hcb] at hx
              exact hC.laid c x hx
          exact ⟨L', hC', hkeep, hk b hb hn ⟨_, hC'⟩⟩
        | float =>
          rw [hfi] at h0
          obtain ⟨zi, ti, mki, hri, hki⟩ := h0
          refine ⟨zi, ti, mki, hri, fun bi hbi hni hxi => ?_⟩
          have hne : bi ≠ b := fun e => by unfold Fl.put at hni; rw [e] at hni; simp at hni
          have hni' : F bi = none := by unfold Fl.put at hni; rwa [if_neg hne] at hni
          obtain ⟨w2, hw2⟩ := hxi
          rw [Fl.put_comm F (Ne.symm hne)] at hw2 ⊢
          have hnb : (F.put bi (zi, ti)) b = none := by unfold Fl.put; rw [if_neg (Ne.symm hne)]; exact hn
          have hq := hki bi hbi hni' ⟨w2, hw2.less hnb⟩
          obtain ⟨z', t', mk', hz', hk⟩ := hin _ _ _ ⟨hq.1.1, hq.2⟩
          obtain ⟨rfl, rfl, rfl⟩ := huniq z' t' mk' hz'
          exact hk b hb hnb ⟨w2, hw2⟩
        | store =>
          rw [hfi] at h0
          obtain ⟨bi, old, cs, ti, hbi, hri, hki⟩ := h0
          have hne : bi ≠ b := fun e => by rw [e, hn] at hbi; cases hbi
          refine ⟨bi, old, cs, ti, by unfold Fl.put; rw [if_neg hne]; exact hbi, fun w hw => hri w (hw.less hn), ?_⟩
          obtain ⟨z', t', mk', hz', hk⟩ := hin _ _ _ ⟨hki.1.1, hki.2⟩
          obtain ⟨rfl, rfl, rfl⟩ := huniq z' t' mk' hz'
          obtain ⟨w2, hw2⟩ := hx
          have hrow := hw2.setRow hW hst (b := bi) (old := old) (cs := cs) (t := ti) (by unfold Fl.put; rw [if_neg hne]; exact hbi)
          rw [Fl.put_comm F (Ne.symm hne)] at hrow ⊢
          exact hk b hb (by unfold Fl.put; rw [if_neg (Ne.symm hne)]; exact hn) ⟨_, hrow⟩
    · refine putsH (.inr ⟨by simpa using hwj, rfl⟩) (hput undef fun a' F' L' hh => ?_)
      obtain ⟨⟨⟨u, hu⟩, -, -⟩, hk⟩ := hh
      unfold stepH at hk
      rw [hu, wanted_put oj a oi.dst u a1, if_neg hwj] at hk
      exact hk


theorem frontH {Q : Act → Fl → List Item → Prop} {oj : Oper} (hsj : ∀ cs b, oj.op ≠ .select cs b) (hokj : okOp P oj = true) (l2 : List Oper) :
    ∀ (l1 : List Oper), (∀ oi ∈ l1, (∀ cs b, oi.op ≠ .select cs b) ∧ okOp P oi = true ∧ oi.apart ops oj = true ∧ pairG oi.op oj.op = true) → ∀ (a : Act) (F : Fl) (L : List Item) (w1 : World), W.heap.size ≤ w0.heap.size → (∀ k, St k → k < w0.heap.size) → ClH St D W w0 F L w1 →
      wpH P St D W w0 ops Q (l1 ++ oj :: l2) a F L → stepH P St D W w0 ops oj (wpH P St D W w0 ops Q (l1 ++ l2)) a F L := by
  intro l1
  induction l1 with
  | nil => intro _ a F L w1 _ _ _ h; exact h
  | cons oi l1 ih =>
    intro hall a F L w1 hW hst hc h
    obtain ⟨hsi, hoki, hap, hpr⟩ := hall oi (by simp)
    -- the rest of the list is walked in worlds that come of w1: which ones there are is read off the step itself
    have hrest : stepH P St D W w0 ops oi (fun a' F' L' => (∃ w2, ClH St D W w0 F' L' w2) → stepH P St D W w0 ops oj (wpH P St D W w0 ops Q (l1 ++ l2)) a' F' L') a F L :=
      stepH_mono (fun a' F' L' hh hne => by obtain ⟨w2, h2⟩ := hne; exact ih (fun k hk => hall k (by simp [hk])) a' F' L' w2 hW hst h2 hh) h
    have hgo : stepH P St D W w0 ops oi (stepH P St D W w0 ops oj (wpH P St D W w0 ops Q (l1 ++ l2))) a F L := by
      unfold stepH at hrest
      rw [show stepH P St D W w0 ops oi (stepH P St D W w0 ops oj (wpH P St D W w0 ops Q (l1 ++ l2))) a F L = _ from by rw [stepH]]
      split
      · rename_i hw
        rw [if_pos hw] at hrest
        split <;> rename_i hf <;> rw [hf] at hrest <;> simp only at hrest
        · intro hok; obtain ⟨v, h1, h2⟩ := hrest hok; exact ⟨v, h1, h2 ⟨w1, hc⟩⟩
        · exact fun w hw => Oper.wp_mono (fun a w h => by obtain ⟨L', h1, h2, h3⟩ := h; exact ⟨L', h1, h2, h3 ⟨_, h1⟩⟩) (hrest w hw)
        · obtain ⟨z, t, mk, h1, h2⟩ := hrest
          exact ⟨z, t, mk, h1, fun b hb hn hx => h2 b hb hn hx hx⟩
        · obtain ⟨b, old, cs, t, h1, h2, h3⟩ := hrest
          exact ⟨b, old, cs, t, h1, h2, h3 ⟨_, hc.setRow hW hst h1⟩⟩
      · rename_i hw; rw [if_neg hw] at hrest; exact hrest ⟨w1, hc⟩
    exact swapH hsi hsj hoki hokj hap hpr hW hst hc hgo
theorem stepH_op {Q' : Exit → Act → World → Prop} {j : Nat} {oj : Oper} (hj : ops[j]? = some oj) (hokj : okOp P oj = true) {K : Act → Fl → List Item → Prop} {a : Act} {F : Fl} {L : List Item} {w : World} (hW : W.heap.size ≤ w0.heap.size) (hst : ∀ k, St k → k < w0.heap.size) (hc : ClH St D W w0 F L w) (h : stepH P St D W w0 ops oj K a F L) :
    wpOp P ops Q' j (fun a' w' => ∃ F' L', ClH St D W w0 F' L' w' ∧ K a' F' L') a w := by
  unfold stepH at h
  unfold wpOp
  rw [hj]
  simp only
  split
  · rename_i hw
    rw [if_pos hw] at h
    refine .inl ?_
    cases hf : fkG oj.op with
    | pure =>
      rw [hf] at h
      obtain ⟨v, h1, h2⟩ := h hokj
      simp only [Oper.wp, PureG.runH h1 hc, Oper.upon]
      exact ⟨F, L, hc, h2⟩
    | call =>
      rw [hf] at h
      exact wp_false (Oper.wp_mono (fun a' w' hh => by obtain ⟨L', h1, _, h3⟩ := hh; exact ⟨F, L', h1, h3⟩) (h w hc))
    | float =>
      rw [hf] at h
      obtain ⟨z, t, mk, h1, h2⟩ := h
      simp only [Oper.wp, h1 w, Oper.upon]
      have hc' := hc.alloc hst z t
      exact ⟨_, _, hc', h2 w.heap.size hc.size (hc.new_none (Nat.le_refl _)) ⟨_, hc'⟩⟩
    | store =>
      rw [hf] at h
      obtain ⟨b, old, cs, t, h1, h2, h3⟩ := h
      simp only [Oper.wp, h2 w hc, Oper.upon]
      exact ⟨_, _, hc.setRow hW hst h1, h3⟩
  · rename_i hw; rw [if_neg hw] at h; exact ⟨F, L, hc, h⟩
theorem gen_sound {cert : Array Nat} (hback : backB ops cert = true) (hsel : Region.noSelect ops = true) (hok : ops.all (okOp P) = true) (hW : W.heap.size ≤ w0.heap.size) (hst : ∀ k, St k → k < w0.heap.size) {Q : Act → Fl → List Item → Prop} {Q' : Exit → Act → World → Prop} (hQ : ∀ a w F L, ClH St D W w0 F L w → Q a F L → Q' .normal a w) :
    ∀ (fuel : Nat) (l : List Nat) (listed : Array Bool) (a : Act) (w : World) (F : Fl) (L : List Item), l.length ≤ fuel → (∀ i, i ∈ l ↔ i < ops.size ∧ listed.getD i true = false) → l.Nodup → orderG ops cert l = true →
      Closed ops listed → listed.size = ops.size → ClH St D W w0 F L w → wpH P St D W w0 ops Q (l.filterMap (ops[·]?)) a F L → wpAny P .any ops Q' fuel listed a w := by
  intro fuel
  induction fuel with
  | zero =>
    intro l listed a w F L hlen hmem _ _ _ _ hc h
    have hnil : l = [] := List.eq_nil_of_length_eq_zero (by omega)
    subst hnil
    refine ⟨?_, hQ _ _ _ _ hc h⟩
    refine List.eq_nil_iff_forall_not_mem.2 fun j hj => ?_
    obtain ⟨h0, o, ho, _⟩ := mem_ready.1 hj
    have := (hmem j).2 ⟨(Array.getElem?_eq_some_iff.1 ho).1, h0⟩
    cases this
  | succ fuel ih =>
    intro l listed a w F L hlen hmem hnd hord hcl hsz hc h
    have hunl : ∀ i, i < ops.size → i ∉ l → listed.getD i false = true := fun i hi hn => by
      have h1 : ¬ listed.getD i true = false := fun hh => hn ((hmem i).2 ⟨hi, hh⟩)
      have hi' : i < listed.size := by omega
      simp [hi'] at h1 ⊢
      exact h1
    refine ⟨fun hr => ?_, fun j hj => ?_⟩
    · cases l with
      | nil => exact hQ _ _ _ _ hc h
      | cons i l =>
        exfalso
        obtain ⟨hi, hi0⟩ := (hmem i).1 (by simp)
        have hio : ops[i]? = some ops[i] := Array.getElem?_eq_getElem hi
        have hin : i ∈ Region.ready .any ops listed := mem_ready.2 ⟨hi0, _, hio, fun e he hb => by
          have hlt := (back_at hback hio).1 e he hb
          simp only [orderG, hio, Bool.and_eq_true] at hord
          have := (Array.all_eq_true_iff_forall_mem.1 hord.1.1) e he
          simp only [hb, Bool.not_true, Bool.false_or, Bool.not_eq_true', List.contains_eq_mem, decide_eq_false_iff_not] at this
          refine hunl e.on (by omega) fun hin => ?_
          rcases List.mem_cons.1 hin with h | h
          · omega
          · exact this h⟩
        rw [hr] at hin
        cases hin
    · obtain ⟨h0, oj, hoj, hall⟩ := mem_ready.1 hj
      have hjlt : j < ops.size := (Array.getElem?_eq_some_iff.1 hoj).1
      obtain ⟨l1, l2, rfl⟩ := List.append_of_mem ((hmem j).2 ⟨hjlt, h0⟩)
      have hsel' := Region.noSelect_spec hsel
      have hokj : okOp P oj = true := Array.all_eq_true_iff_forall_mem.1 hok oj (Array.mem_of_getElem? hoj)
      rw [List.filterMap_append, List.filterMap_cons_some hoj] at h
      have hfront := frontH (P := P) (St := St) (D := D) (W := W) (w0 := w0) (hsel' j oj · · hoj) hokj _ _ (fun oi hoi => by
        obtain ⟨x, hx, hxo⟩ := List.mem_filterMap.1 hoi
        obtain ⟨ox, hox, hcase⟩ := orderG_at hoj l2 l1 hord x hx
        rw [hox] at hxo
        cases hxo
        refine ⟨fun cs b => hsel' x _ cs b hox, Array.all_eq_true_iff_forall_mem.1 hok _ (Array.mem_of_getElem? hox), ?_⟩
        rcases hcase with ⟨hlt, hb⟩ | hcase
        · exfalso
          have h1 := back_listed hback hcl j j oj (Nat.le_refl _) hoj hall x hlt hb
          have h2 := ((hmem x).1 (by simp [hx])).2
          have hi' : x < listed.size := by omega
          simp [hi'] at h1 h2
          rw [h1] at h2; cases h2
        · exact hcase) a F L w hW hst hc h
      refine wpOp_mono (fun a' w' hh => ?_) (stepH_op hoj hokj hW hst hc hfront)
      obtain ⟨F', L', hc', hh⟩ := hh
      rw [← List.filterMap_append] at hh
      have hnd' := hnd
      rw [List.nodup_append] at hnd'
      have hj1 : j ∉ l1 := fun hin => hnd'.2.2 j hin j (by simp) rfl
      have hj2 : j ∉ l2 := (List.nodup_cons.1 hnd'.2.1).1
      refine ih (l1 ++ l2) _ a' w' F' L' (by simp at hlen ⊢; omega) (fun i => ?_) ?_ (orderG_drop l2 l1 hord) ?_ (by simpa using hsz) hc' hh
      · have hne : ∀ i, i ∈ l1 ++ l2 → i ≠ j := fun i hi e => by
          subst e
          rcases List.mem_append.1 hi with h | h
          · exact hj1 h
          · exact hj2 h
        constructor
        · intro hi
          obtain ⟨h1, h2⟩ := (hmem i).1 (by rcases List.mem_append.1 hi with h | h <;> simp [h])
          exact ⟨h1, by rw [getD_set_ne true (Ne.symm (hne i hi))]; exact h2⟩
        · rintro ⟨h1, h2⟩
          have hij : i ≠ j := fun e => by subst e; simp [show i < listed.size by omega] at h2
          rw [getD_set_ne true (Ne.symm hij)] at h2
          have := (hmem i).2 ⟨h1, h2⟩
          rcases List.mem_append.1 this with h | h
          · simp [h]
          · rcases List.mem_cons.1 h with h | h
            · exact absurd h hij
            · simp [h]
      · rw [List.nodup_append]
        exact ⟨hnd'.1, (List.nodup_cons.1 hnd'.2.1).2, fun x hx y hy => hnd'.2.2 x hx y (by simp [hy])⟩
      · intro k o hk hlk e he hb
        by_cases hkj : k = j
        · subst hkj
          rw [hoj] at hk
          cases hk
          exact getD_set_true (hall e he hb)
        · rw [getD_set_ne false (Ne.symm hkj)] at hlk
          exact getD_set_true (hcl k o hk hlk e he hb)

theorem wp_region_h {id : Nat} {l : List Oper} {a : Act} {w : World} (hm : P.follows .mixedOrders = true) (canon : List Nat) (hcan : canonG l.toArray canon = true) (hsel : Region.noSelect l.toArray = true) (hok : l.toArray.all (okOp P) = true) (X : Nat → Prop) {L : List Item} (H : HS D W L w) {Q' : Exit → Act → World → Prop}
    (h : ∀ w0, HS D W L w0 → w0.heap.size = w.heap.size → wpH P (Stay X w0) D W w0 l.toArray (fun a F L' => ∀ w', ClH (Stay X w0) D W w0 F L' w' → Q' .normal a w') (canon.filterMap (l.toArray[·]?)) a (fun _ => none) L) : (Code.region id l.toArray true).wp P Q' a w := by
  unfold canonG at hcan
  simp only [Bool.and_eq_true, List.all_eq_true, decide_eq_true_eq, List.contains_eq_mem] at hcan
  obtain ⟨⟨⟨⟨⟨h1, h2⟩, h3⟩, hlen⟩, h4⟩, h5⟩ := hcan
  have hd : HS D W L w.drew := H.drew
  refine wp_region_any hm (gen_sound (St := Stay X w.drew) (D := D) (W := W) (w0 := w.drew) h5 hsel hok hd.size (fun _ h => h.1) (fun a w F L hc h => h w hc) _ canon _ a w.drew (fun _ => none) L hlen (fun i => ?_) h3 h4 ?_ (by simp) ⟨Same.refl _ _, hd, Nat.le_refl _, fun b x hx => by cases hx⟩ (h w.drew hd rfl))
  · constructor
    · intro hi; have h := h2 i hi; refine ⟨h, ?_⟩; simp at h; simp [h]
    · exact fun hh => h1 i (List.mem_range.2 hh.1)
  · intro k o _ hk
    exfalso
    rcases Nat.lt_or_ge k l.toArray.size with hh | hh
    · simp at hh; simp [hh] at hk
    · simp at hh; simp [Nat.not_lt.2 hh] at hk
end

/-! ### The walk's steps -/
section
variable {P : Program} {ops : Array Oper} {St D : Nat → Prop} {W w0 : World} {Q : Act → Fl → List Item → Prop} {o : Oper} {rest : List Oper} {a : Act} {F : Fl} {L : List Item}
theorem wpH_nil (h : Q a F L) : wpH P St D W w0 ops Q [] a F L := h
theorem wpH_skip (hw : Region.wanted o (yielded ops a.tmps) = false) (h : wpH P St D W w0 ops Q rest (a.put o.dst undef) F L) : wpH P St D W w0 ops Q (o :: rest) a F L := by
  unfold wpH stepH
  rw [if_neg (by rw [hw]; simp)]
  exact h
theorem wpH_steady (hw : Region.wanted o (yielded ops a.tmps) = true) (hp : fkG o.op = .pure)
    (hs : okOp P o = true → ∀ x w1, (execOp a.eval o).run P w0 = .ok x w1 → w1 = w0 ∧ (∃ v, x = .value v) ∧ ∀ w', Same St w0 w' → (execOp a.eval o).run P w' = .ok x w')
    (h : ∀ K : Act → World → Prop, (∀ a w, wpH P St D W w0 ops Q rest a F L → K a w) → o.wp P a w0 K (fun _ _ _ => False)) : wpH P St D W w0 ops Q (o :: rest) a F L := by
  unfold wpH stepH
  rw [if_pos hw, hp]
  intro hok
  have h1 := h (fun a _ => wpH P St D W w0 ops Q rest a F L) (fun _ _ h => h)
  have h2 := hs hok
  unfold Oper.wp at h1
  cases hr : (execOp a.eval o).run P w0 with
  | halt x w1 =>
    rw [hr] at h1
    cases x <;> simp only [Oper.upon] at h1
  | ok x w1 =>
    obtain ⟨rfl, ⟨v, rfl⟩, h3⟩ := h2 x w1 hr
    rw [hr] at h1
    exact ⟨v, .inl h3, h1⟩
theorem wpH_free (hw : Region.wanted o (yielded ops a.tmps) = true) (hp : fkG o.op = .pure) (hf : freeAt a.eval o = true)
    (h : ∀ K : Act → World → Prop, (∀ a w, wpH P St D W w0 ops Q rest a F L → K a w) → o.wp P a w0 K (fun _ _ _ => False)) : wpH P St D W w0 ops Q (o :: rest) a F L :=
  wpH_steady hw hp (fun hok x w1 hr => by
    have hs := freeAt_steady hf hok
    obtain ⟨h1, h2, _⟩ := hs w0 w0 x w1 hr
    exact ⟨h1, h2, fun w' _ => (hs w0 w' x w1 hr).2.2⟩) h
/-- Any other operation that yields v in every world that agrees. -/
theorem wpH_yield (hw : Region.wanted o (yielded ops a.tmps) = true) (hp : fkG o.op = .pure) (v : Value) (hv : ∀ w, Same St w0 w → (execOp a.eval o).run P w = .ok (.value v) w) (h : wpH P St D W w0 ops Q rest (a.put o.dst v) F L) : wpH P St D W w0 ops Q (o :: rest) a F L := by
  unfold wpH stepH
  rw [if_pos hw, hp]
  exact fun _ => ⟨v, .inl hv, h⟩
theorem wpH_load (hw : Region.wanted o (yielded ops a.tmps) = true) {t : TypeId} {x : Operand} {p : Addr} (ho : o.op = .load t x) (hx : a.eval x = .pointer (some p)) (hS : St p.block) (hc : (w0.cell? p).isSome = true)
    (h : ∀ K : Act → World → Prop, (∀ a w, wpH P St D W w0 ops Q rest a F L → K a w) → o.wp P a w0 K (fun _ _ _ => False)) : wpH P St D W w0 ops Q (o :: rest) a F L :=
  wpH_steady hw (by rw [ho]; rfl) (fun _ y w1 hr => by
    have hrun : ∀ v : World, (execOp a.eval o).run P v = ((Instr.loadAt t (.pointer (some p))).run P v).andThen fun u w' => .ok (.value u) w' := fun v => by
      unfold execOp
      rw [ho]
      simp only [hx, Sem.run_bind, Sem.run_pure]
    rw [hrun] at hr
    cases hl : (Instr.loadAt t (.pointer (some p))).run P w0 with
    | halt z w2 => rw [hl] at hr; cases hr
    | ok u w2 =>
      rw [hl] at hr
      simp only [Result.andThen_ok, Result.ok.injEq] at hr
      obtain ⟨rfl, rfl⟩ := hr
      refine ⟨(load_steady (P := P) (w' := w0) rfl hc hl).1, ⟨u, rfl⟩, fun w' hw' => ?_⟩
      have := (load_steady (P := P) (w := w0) (w' := w') (hw' _ hS) hc hl).2
      rw [hrun, this]
      rfl) h
theorem wpH_call (hw : Region.wanted o (yielded ops a.tmps) = true) (hp : fkG o.op = .call)
    (h : ∀ w, ClH St D W w0 F L w → ∀ K : Act → World → Prop, (∀ a w', (∃ L', ClH St D W w0 F L' w' ∧ KeepL L L' w0 w w' ∧ wpH P St D W w0 ops Q rest a F L') → K a w') → o.wp P a w K (fun _ _ _ => False)) : wpH P St D W w0 ops Q (o :: rest) a F L := by
  unfold wpH stepH
  rw [if_pos hw, hp]
  exact fun w hc => h w hc _ (fun _ _ h => h)
theorem wpH_float (hw : Region.wanted o (yielded ops a.tmps) = true) (hp : fkG o.op = .float) (z : Array Value) (t : TypeId) (hr : ∀ w, (execOp a.eval o).run P w = .ok (.value (.pointer (some ⟨w.heap.size, 0, none⟩))) (w.alloc (.cells z t)))
    (h : ∀ b, w0.heap.size ≤ b → F b = none → ∀ K : Act → World → Prop, (∀ a w, wpH P St D W w0 ops Q rest a (F.put b (z, t)) L → K a w) → K (a.put o.dst (.pointer (some ⟨b, 0, none⟩))) w0) : wpH P St D W w0 ops Q (o :: rest) a F L := by
  unfold wpH stepH
  rw [if_pos hw, hp]
  exact ⟨z, t, fun b => .pointer (some ⟨b, 0, none⟩), hr, fun b hb hn _ => h b hb hn (fun a _ => wpH P St D W w0 ops Q rest a (F.put b (z, t)) L) (fun _ _ h => h)⟩
theorem wpH_lit (hw : Region.wanted o (yielded ops a.tmps) = true) (hp : fkG o.op = .float) (z : Array Value) (t : TypeId) (n : Nat) (hr : ∀ w, (execOp a.eval o).run P w = .ok (.value (.slice (some ⟨w.heap.size, 0, none⟩) n n)) (w.alloc (.cells z t)))
    (h : ∀ b, w0.heap.size ≤ b → F b = none → ∀ K : Act → World → Prop, (∀ a w, wpH P St D W w0 ops Q rest a (F.put b (z, t)) L → K a w) → K (a.put o.dst (.slice (some ⟨b, 0, none⟩) n n)) w0) : wpH P St D W w0 ops Q (o :: rest) a F L := by
  unfold wpH stepH
  rw [if_pos hw, hp]
  exact ⟨z, t, fun b => .slice (some ⟨b, 0, none⟩) n n, hr, fun b hb hn _ => h b hb hn (fun a _ => wpH P St D W w0 ops Q rest a (F.put b (z, t)) L) (fun _ _ h => h)⟩
end
end Go.Proofs.Ytfmcicmbehjdcaa
