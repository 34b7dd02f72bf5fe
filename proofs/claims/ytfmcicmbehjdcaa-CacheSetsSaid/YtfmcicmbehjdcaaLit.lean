/- A region that draws its order, lays new variables and literal slices in it, and reads such a slice ('[]int{1, 2}[f()]'): as XFloat, with loads of what the region itself has laid. -/
import Derived.Test.YtfmcicmbehjdcaaHeap
namespace Go.Proofs.Ytfmcicmbehjdcaa
set_option linter.unusedSimpArgs false
set_option linter.unusedVariables false
open Go.RowKit

def fkG : Op → FK
  | .alloc _ => .float
  | .buildSlice .. => .float
  | .store .. => .store
  | o => if effOp o then .call else .pure
def isLd : Op → Bool
  | .load .. => true
  | _ => false

section
variable (P : Program) (St : Nat → Prop) (I : World → Prop) (w0 : World)
/-- A load of a block that the region has laid. -/
def LookG (F : Fl) (o : Oper) (v : Value) (a : Act) : Prop := isLd o.op = true ∧ ∃ b cs t, F b = some (cs, t) ∧ (∀ w, Blk w b cs t → (execOp a.eval o).run P w = .ok (.value v) w) ∧ ∀ w u w', w.heap[b]? = none → (execOp a.eval o).run P w ≠ .ok u w'
/-- One operation, seen without the world. -/
def stepG (ops : Array Oper) (o : Oper) (K : Act → Fl → Prop) (a : Act) (F : Fl) : Prop :=
  if Region.wanted o (yielded ops a.tmps) = true then
    match fkG o.op with
    | .pure => okOp P o = true → ∃ v, (YieldsS P (SW.of St w0) o v a ∨ LookG P F o v a) ∧ K (a.put o.dst v) F
    | .call => ∀ w, Cls St I w0 F w → o.wp P a w (fun a' w' => Cls St I w0 F w' ∧ (∀ k, w0.heap.size ≤ k → k < w.heap.size → w'.heap[k]? = w.heap[k]?) ∧ K a' F) (fun _ _ _ => False)
    | .float => ∃ (z : Array Value) (t : TypeId) (mk : Nat → Value), (∀ w, (execOp a.eval o).run P w = .ok (.value (mk w.heap.size)) (w.alloc (.cells z t))) ∧ ∀ b, w0.heap.size ≤ b → F b = none → (∃ w, Cls St I w0 (F.put b (z, t)) w) → K (a.put o.dst (mk b)) (F.put b (z, t))
    | .store => ∃ b old cs t, F b = some (old, t) ∧ (∀ w, Cls St I w0 F w → (execOp a.eval o).run P w = .ok .skip (w.setRow b cs)) ∧ K (a.put o.dst undef) (F.put b (cs, t))
  else K (a.put o.dst undef) F
def wpG (ops : Array Oper) (Q : Act → Fl → Prop) : List Oper → Act → Fl → Prop
  | [], a, F => Q a F
  | o :: l, a, F => stepG P St I w0 ops o (wpG ops Q l) a F
end

section
variable {P : Program} {ops : Array Oper} {St : Nat → Prop} {I : World → Prop} {w0 : World}

theorem LookG.of_same {F : Fl} {o : Oper} {v : Value} {a a' : Act} (h : LookG P F o v a) (e : execOp a'.eval o = execOp a.eval o) : LookG P F o v a' := by
  unfold LookG at *; rw [e]; exact h
theorem LookG.ext {F F' : Fl} {o : Oper} {v : Value} {a : Act} (h : LookG P F o v a) (e : ∀ b x, F b = some x → F' b = some x) : LookG P F' o v a := by
  obtain ⟨h1, b, cs, t, h2, h3⟩ := h
  exact ⟨h1, b, cs, t, e b _ h2, h3⟩
theorem LookG.run {F : Fl} {o : Oper} {v : Value} {a : Act} (h : LookG P F o v a) {w : World} (hc : Cls St I w0 F w) : (execOp a.eval o).run P w = .ok (.value v) w := by
  obtain ⟨h1, b, cs, t, h2, h3, h4⟩ := h
  exact h3 w (hc.laid b _ h2).2
def PureG (P : Program) (St : Nat → Prop) (w0 : World) (F : Fl) (o : Oper) (v : Value) (a : Act) : Prop := YieldsS P (SW.of St w0) o v a ∨ LookG P F o v a
theorem PureG.run {F : Fl} {o : Oper} {v : Value} {a : Act} (h : PureG P St w0 F o v a) {w : World} (hc : Cls St I w0 F w) : (execOp a.eval o).run P w = .ok (.value v) w := by
  rcases h with h | h
  · exact h w hc.same
  · exact h.run hc
theorem PureG.of_same {F : Fl} {o : Oper} {v : Value} {a a' : Act} (h : PureG P St w0 F o v a) (e : execOp a'.eval o = execOp a.eval o) : PureG P St w0 F o v a' := by
  rcases h with h | h
  · exact .inl (h.of_same e)
  · exact .inr (h.of_same e)
theorem PureG.ext {F F' : Fl} {o : Oper} {v : Value} {a : Act} (h : PureG P St w0 F o v a) (e : isLd o.op = true → ∀ b x, F b = some x → F' b = some x) : PureG P St w0 F' o v a := by
  rcases h with h | h
  · exact .inl h
  · exact .inr (h.ext (e h.1))
theorem Fl.put_new {F : Fl} {b : Nat} (hn : F b = none) (x : Array Value × TypeId) : ∀ c y, F c = some y → F.put b x c = some y := fun c y h => by
  unfold Fl.put
  rw [if_neg (fun e => by rw [e, hn] at h; cases h)]
  exact h
theorem Cls.new_none {F : Fl} {w : World} (h : Cls St I w0 F w) {k : Nat} (hk : w.heap.size ≤ k) : F k = none := by
  cases hF : F k with
  | none => rfl
  | some x => exact absurd (h.laid _ _ hF).2.lt (by omega)

theorem stepG_mono {o : Oper} {K K' : Act → Fl → Prop} (hk : ∀ a F, K a F → K' a F) {a : Act} {F : Fl} (h : stepG P St I w0 ops o K a F) : stepG P St I w0 ops o K' a F := by
  unfold stepG at *
  split
  · rename_i hw
    rw [if_pos hw] at h
    split <;> rename_i hf <;> rw [hf] at h <;> simp only at h
    · intro hok; obtain ⟨v, h1, h2⟩ := h hok; exact ⟨v, h1, hk _ _ h2⟩
    · exact fun w hw => Oper.wp_mono (fun a w h => ⟨h.1, h.2.1, hk _ _ h.2.2⟩) (h w hw)
    · obtain ⟨z, t, mk, h1, h2⟩ := h; exact ⟨z, t, mk, h1, fun b hb hn hx => hk _ _ (h2 b hb hn hx)⟩
    · obtain ⟨b, old, cs, t, h1, h2, h3⟩ := h; exact ⟨b, old, cs, t, h1, h2, hk _ _ h3⟩
  · rename_i hw; rw [if_neg hw] at h; exact hk _ _ h

/-- The operation, at the frame a, puts v and does no more. -/
def PutsG (P : Program) (St : Nat → Prop) (w0 : World) (ops : Array Oper) (F : Fl) (o : Oper) (v : Value) (a : Act) : Prop :=
  (Region.wanted o (yielded ops a.tmps) = true ∧ fkG o.op = .pure ∧ PureG P St w0 F o v a) ∨ (Region.wanted o (yielded ops a.tmps) = false ∧ v = undef)
theorem PutsG.step {o : Oper} {v : Value} {a : Act} {F : Fl} (h : PutsG P St w0 ops F o v a) {K : Act → Fl → Prop} (hK : K (a.put o.dst v) F) : stepG P St I w0 ops o K a F := by
  unfold stepG
  rcases h with ⟨h1, h2, h3⟩ | ⟨h1, rfl⟩
  · rw [if_pos h1, h2]; exact fun _ => ⟨v, h3, hK⟩
  · rw [if_neg (by rw [h1]; simp)]; exact hK
theorem PutsG.move {o : Oper} (hs : ∀ cs b, o.op ≠ .select cs b) {v : Value} {a a' : Act} {F F' : Fl} (hp : PutsG P St w0 ops F o v a) {d : Option Tmp} {u : Value} (ht : a'.tmps = (a.put d u).tmps) (h : ∀ t, d = some t → t ∉ o.looksAt ops) (hF : isLd o.op = true → ∀ b x, F b = some x → F' b = some x) : PutsG P St w0 ops F' o v a' := by
  unfold PutsG at *
  have hw : Region.wanted o (yielded ops a'.tmps) = Region.wanted o (yielded ops a.tmps) := by rw [ht]; exact wanted_put o a d u h
  rw [hw]
  rcases hp with ⟨h1, h2, h3⟩ | h1
  · exact .inl ⟨h1, h2, (h3.of_same (exec_tmps hs ht h)).ext hF⟩
  · exact .inr h1

theorem stepG_cases {o : Oper} (hok : okOp P o = true) {K : Act → Fl → Prop} {a : Act} {F : Fl} (h : stepG P St I w0 ops o K a F) :
    (∃ v, PutsG P St w0 ops F o v a ∧ K (a.put o.dst v) F) ∨ (Region.wanted o (yielded ops a.tmps) = true ∧ fkG o.op ≠ .pure) := by
  unfold stepG at h
  by_cases hw : Region.wanted o (yielded ops a.tmps) = true
  · rw [if_pos hw] at h
    cases hf : fkG o.op with
    | pure =>
      rw [hf] at h
      obtain ⟨v, h1, h2⟩ := h hok
      exact .inl ⟨v, .inl ⟨hw, hf, h1⟩, h2⟩
    | _ => exact .inr ⟨hw, by simp⟩
  · rw [if_neg hw] at h
    exact .inl ⟨undef, .inr ⟨by simpa using hw, rfl⟩, h⟩
theorem stepG_put {o : Oper} (hs : ∀ cs b, o.op ≠ .select cs b) {d : Option Tmp} (h1 : ∀ t, d = some t → t ∉ o.looksAt ops) (h2 : ∀ t, d = some t → o.dst ≠ some t) (v : Value) {a : Act} {F : Fl} {K : Act → Fl → Prop} :
    stepG P St I w0 ops o K (a.put d v) F ↔ stepG P St I w0 ops o (fun a' F' => K (a'.put d v) F') a F := by
  have he := execOp_put (ops := ops) o hs a d v h1
  have hy : ∀ u, PureG P St w0 F o u (a.put d v) ↔ PureG P St w0 F o u a := fun u =>
    ⟨fun h => h.of_same he.symm, fun h => h.of_same he⟩
  unfold stepG
  rw [wanted_put o a d v h1]
  split
  · split
    · constructor
      · intro h hok; obtain ⟨u, hu, hk⟩ := h hok; exact ⟨u, (hy u).1 hu, by rw [Act.put_comm a v u h2] at hk; exact hk⟩
      · intro h hok; obtain ⟨u, hu, hk⟩ := h hok; exact ⟨u, (hy u).2 hu, by rw [Act.put_comm a v u h2]; exact hk⟩
    · constructor
      · intro h w hw; exact (wp_put hs h1 h2 v).1 (h w hw)
      · intro h w hw; exact (wp_put hs h1 h2 v).2 (h w hw)
    · rw [he]
      constructor
      · rintro ⟨z, t, mk, hr, hk⟩; exact ⟨z, t, mk, hr, fun b hb hn hx => by have := hk b hb hn hx; rw [Act.put_comm a v _ h2] at this; exact this⟩
      · rintro ⟨z, t, mk, hr, hk⟩; exact ⟨z, t, mk, hr, fun b hb hn hx => by rw [Act.put_comm a v _ h2]; exact hk b hb hn hx⟩
    · rw [he]
      constructor
      · rintro ⟨b, old, cs, t, hb, hr, hk⟩; exact ⟨b, old, cs, t, hb, hr, by rw [Act.put_comm a v _ h2] at hk; exact hk⟩
      · rintro ⟨b, old, cs, t, hb, hr, hk⟩; exact ⟨b, old, cs, t, hb, hr, by rw [Act.put_comm a v _ h2]; exact hk⟩
  · rw [Act.put_comm a v undef h2]

/-- What is known behind a step. -/
def Behind (P : Program) (St : Nat → Prop) (I : World → Prop) (w0 : World) (o : Oper) (a : Act) (F : Fl) (a' : Act) (F' : Fl) : Prop :=
  (∃ u, a'.tmps = (a.put o.dst u).tmps) ∧ (∃ w, Cls St I w0 F' w) ∧ (fkG o.op = .store ∨ ∀ b x, F b = some x → F' b = some x)
theorem stepG_info {o : Oper} {K : Act → Fl → Prop} {a : Act} {F : Fl} {w1 : World} (hl : Lasting w0.heap.size I) (hst : ∀ k, St k → k < w0.heap.size) (hc : Cls St I w0 F w1) (h : stepG P St I w0 ops o K a F) :
    stepG P St I w0 ops o (fun a' F' => Behind P St I w0 o a F a' F' ∧ K a' F') a F := by
  unfold stepG at *
  split
  · rename_i hw
    rw [if_pos hw] at h
    split <;> rename_i hf <;> rw [hf] at h <;> simp only at h
    · intro hok; obtain ⟨v, h1, h2⟩ := h hok; exact ⟨v, h1, ⟨⟨v, rfl⟩, ⟨w1, hc⟩, .inr fun _ _ h => h⟩, h2⟩
    · exact fun w hw => Oper.wp_mono (fun a w h => ⟨h.2.1, h.2.2.1, ⟨h.1, ⟨w1, hc⟩, .inr fun _ _ h => h⟩, h.2.2.2⟩) (wp_info (h w hw))
    · obtain ⟨z, t, mk, h1, h2⟩ := h
      exact ⟨z, t, mk, h1, fun b hb hn hx => ⟨⟨⟨_, rfl⟩, hx, .inr (Fl.put_new hn _)⟩, h2 b hb hn hx⟩⟩
    · obtain ⟨b, old, cs, t, h1, h2, h3⟩ := h
      exact ⟨b, old, cs, t, h1, h2, ⟨⟨_, rfl⟩, ⟨_, hc.setRow hl hst h1⟩, .inl hf⟩, h3⟩
  · rename_i hw; rw [if_neg hw] at h; exact ⟨⟨⟨undef, rfl⟩, ⟨w1, hc⟩, .inr fun _ _ h => h⟩, h⟩

/-- Some way through an operation that is not pure. -/
theorem stepG_wit {o : Oper} {K : Act → Fl → Prop} {a : Act} {F : Fl} (hw : Region.wanted o (yielded ops a.tmps) = true) (hnp : fkG o.op ≠ .pure) {w1 : World} (hl : Lasting w0.heap.size I) (hst : ∀ k, St k → k < w0.heap.size) (hc : Cls St I w0 F w1) (h : stepG P St I w0 ops o K a F) :
    ∃ a' F', Behind P St I w0 o a F a' F' ∧ K a' F' := by
  have h := stepG_info hl hst hc h
  unfold stepG at h
  rw [if_pos hw] at h
  cases hf : fkG o.op with
  | pure => exact absurd hf hnp
  | call => rw [hf] at h; obtain ⟨a', w', _, _, hh⟩ := wp_wit (h w1 hc); exact ⟨a', F, hh⟩
  | float =>
    rw [hf] at h
    obtain ⟨z, t, mk, _, h2⟩ := h
    exact ⟨_, _, h2 w1.heap.size hc.size (hc.new_none (Nat.le_refl _)) ⟨_, hc.alloc hl hst z t⟩⟩
  | store => rw [hf] at h; obtain ⟨b, old, cs, t, _, _, h3⟩ := h; exact ⟨_, _, h3⟩
/-- What a pure operation puts behind an operation that is not, it puts ahead of it. -/
theorem stepG_pure {oi oj : Oper} {K : Act → Fl → Prop} {a : Act} {F : Fl} (hw : Region.wanted oi (yielded ops a.tmps) = true) (hnp : fkG oi.op ≠ .pure) (hld : fkG oi.op = .store → isLd oj.op = false) {w1 : World} (hl : Lasting w0.heap.size I) (hst : ∀ k, St k → k < w0.heap.size) (hc : Cls St I w0 F w1)
    (h : stepG P St I w0 ops oi K a F) (hin : ∀ a' F', Behind P St I w0 oi a F a' F' ∧ K a' F' → ∃ v, PureG P St w0 F' oj v a) : ∃ v, PureG P St w0 F oj v a := by
  have hi := stepG_info hl hst hc h
  cases hf : fkG oi.op with
  | pure => exact absurd hf hnp
  | call =>
    unfold stepG at hi
    rw [if_pos hw, hf] at hi
    obtain ⟨a', w', _, _, hh⟩ := wp_wit (hi w1 hc)
    exact hin a' F hh
  | store =>
    obtain ⟨a', F', hh⟩ := stepG_wit hw hnp hl hst hc h
    obtain ⟨v, hv⟩ := hin a' F' hh
    rcases hv with hv | hv
    · exact ⟨v, .inl hv⟩
    · have := hv.1; rw [hld hf] at this; cases this
  | float =>
    unfold stepG at hi
    rw [if_pos hw, hf] at hi
    obtain ⟨z, t, mk, h1, h2⟩ := hi
    have c1 := hc.alloc hl hst z t
    have hn1 : F w1.heap.size = none := hc.new_none (Nat.le_refl _)
    have c2 := (c1.less hn1).alloc hl hst z t
    have hs2 : (w1.alloc (.cells z t)).heap.size = w1.heap.size + 1 := by simp
    rw [hs2] at c2
    have hn2 : F (w1.heap.size + 1) = none := hc.new_none (Nat.le_succ _)
    obtain ⟨v1, hv1⟩ := hin _ _ (h2 w1.heap.size hc.size hn1 ⟨_, c1⟩)
    obtain ⟨v2, hv2⟩ := hin _ _ (h2 (w1.heap.size + 1) (Nat.le_succ_of_le hc.size) hn2 ⟨_, c2⟩)
    rcases hv1 with hv1 | hv1
    · exact ⟨v1, .inl hv1⟩
    · rcases hv2 with hv2 | hv2
      · exact ⟨v2, .inl hv2⟩
      · obtain ⟨l1, b1, cs1, t1, e1, r1, x1⟩ := hv1
        obtain ⟨l2, b2, cs2, t2, e2, r2, x2⟩ := hv2
        by_cases d1 : b1 = w1.heap.size
        · by_cases d2 : b2 = w1.heap.size + 1
          · exfalso
            have hb1 := (c1.laid b1 _ e1).2
            exact x2 (w1.alloc (.cells z t)) _ _ (by rw [d2]; exact Array.getElem?_eq_none (by simp)) (r1 _ hb1)
          · refine ⟨v2, .inr ⟨l2, b2, cs2, t2, ?_, r2, x2⟩⟩
            unfold Fl.put at e2; rwa [if_neg d2] at e2
        · refine ⟨v1, .inr ⟨l1, b1, cs1, t1, ?_, r1, x1⟩⟩
          unfold Fl.put at e1; rwa [if_neg d1] at e1

def pairG (x y : Op) : Bool := (fkG x == .pure || fkG y == .pure || fkG y == .float) && !(isLd x && fkG y == .store) && !(isLd y && fkG x == .store)

theorem swapG {oi oj : Oper} (hsi : ∀ cs b, oi.op ≠ .select cs b) (hsj : ∀ cs b, oj.op ≠ .select cs b) (hoki : okOp P oi = true) (hokj : okOp P oj = true)
    (hap : oi.apart ops oj = true) (hpr : pairG oi.op oj.op = true) {K : Act → Fl → Prop} {a : Act} {F : Fl} {w1 : World} (hl : Lasting w0.heap.size I) (hst : ∀ k, St k → k < w0.heap.size) (hc : Cls St I w0 F w1)
    (h : stepG P St I w0 ops oi (stepG P St I w0 ops oj K) a F) : stepG P St I w0 ops oj (stepG P St I w0 ops oi K) a F := by
  obtain ⟨a1, a2, a3⟩ := Oper.apart_spec hap
  have a2' : ∀ t, oj.dst = some t → oi.dst ≠ some t := fun t ht hh => a2 t hh ht
  rcases stepG_cases hoki h with ⟨v, hv, hk⟩ | ⟨hwi, hnpi⟩
  · refine stepG_mono (fun a' F' hh => ?_) (stepG_info hl hst hc ((stepG_put hsj a1 a2 v).1 hk))
    obtain ⟨⟨⟨u, hu⟩, -, hext⟩, hk'⟩ := hh
    refine (hv.move hsi hu a3 fun hld => ?_).step hk'
    rcases hext with hext | hext
    · exfalso; simp [pairG, hext, hld] at hpr
    · exact hext
  · have h0 := stepG_info hl hst hc h
    have hput : ∀ v, (∀ a' F', Behind P St I w0 oi a F a' F' ∧ stepG P St I w0 ops oj K a' F' → K (a'.put oj.dst v) F') → stepG P St I w0 ops oi K (a.put oj.dst v) F := fun v hv =>
      (stepG_put hsi (d := oj.dst) a3 a2' v).2 (stepG_mono hv h0)
    by_cases hwj : Region.wanted oj (yielded ops a.tmps) = true
    · have hwj' : ∀ a' : Act, (∃ u, a'.tmps = (a.put oi.dst u).tmps) → Region.wanted oj (yielded ops a'.tmps) = true := by
        rintro a' ⟨u, hu⟩; rw [hu, wanted_put oj a oi.dst u a1]; exact hwj
      have hej : ∀ a' : Act, (∃ u, a'.tmps = (a.put oi.dst u).tmps) → execOp a'.eval oj = execOp a.eval oj := by
        rintro a' ⟨u, hu⟩; exact exec_tmps hsj hu a1
      cases hfj : fkG oj.op with
      | pure =>
        have hin : ∀ (a' : Act) (F' : Fl), Behind P St I w0 oi a F a' F' ∧ stepG P St I w0 ops oj K a' F' → ∃ v, PureG P St w0 F' oj v a ∧ K (a'.put oj.dst v) F' := by
          rintro a' F' ⟨hu, hk⟩
          unfold stepG at hk
          rw [if_pos (hwj' a' hu.1), hfj] at hk
          obtain ⟨v, h1, h2⟩ := hk hokj
          exact ⟨v, PureG.of_same h1 (hej a' hu.1).symm, h2⟩
        have hld : fkG oi.op = .store → isLd oj.op = false := fun hs => by
          cases hb : isLd oj.op with
          | false => rfl
          | true => exfalso; simp [pairG, hs, hb] at hpr
        obtain ⟨v, hv⟩ := stepG_pure (oj := oj) hwi hnpi hld hl hst hc h (fun a' F' hh => by obtain ⟨v, hv, _⟩ := hin a' F' hh; exact ⟨v, hv⟩)
        refine PutsG.step (.inl ⟨hwj, hfj, hv⟩) (hput v fun a' F' hh => ?_)
        obtain ⟨v', hv', hk⟩ := hin a' F' hh
        obtain ⟨-, ⟨w, hw⟩, hext⟩ := hh.1
        have hvF : PureG P St w0 F' oj v a := hv.ext fun hb => by
          rcases hext with hs | hext
          · rw [hld hs] at hb; cases hb
          · exact hext
        have e1 := hvF.run hw
        rw [hv'.run hw] at e1
        simp only [Result.ok.injEq, Next.value.injEq, and_true] at e1
        rw [← e1]
        exact hk
      | call => exfalso; simp [pairG, hfj, hnpi] at hpr
      | store => exfalso; simp [pairG, hfj, hnpi] at hpr
      | float =>
        have hin : ∀ (a' : Act) (F' : Fl), (∃ u, a'.tmps = (a.put oi.dst u).tmps) ∧ stepG P St I w0 ops oj K a' F' → ∃ (z : Array Value) (t : TypeId) (mk : Nat → Value), (∀ w, (execOp a.eval oj).run P w = .ok (.value (mk w.heap.size)) (w.alloc (.cells z t))) ∧
            ∀ b, w0.heap.size ≤ b → F' b = none → (∃ w, Cls St I w0 (F'.put b (z, t)) w) → K (a'.put oj.dst (mk b)) (F'.put b (z, t)) := by
          rintro a' F' ⟨hu, hk⟩
          unfold stepG at hk
          rw [if_pos (hwj' a' hu), hfj] at hk
          obtain ⟨z, t, mk, h1, h2⟩ := hk
          exact ⟨z, t, mk, fun w => by rw [← hej a' hu]; exact h1 w, h2⟩
        obtain ⟨a', F', hu, hh⟩ := stepG_wit hwi hnpi hl hst hc h0
        obtain ⟨z, t, mk, hz, _⟩ := hin a' F' ⟨hu.1, hh.2⟩
        have huniq : ∀ z' t' (mk' : Nat → Value), (∀ w, (execOp a.eval oj).run P w = .ok (.value (mk' w.heap.size)) (w.alloc (.cells z' t'))) → z' = z ∧ t' = t ∧ mk' = mk := fun z' t' mk' hz' => by
          have := hz' w1
          rw [hz w1] at this
          simp only [Result.ok.injEq, World.alloc, World.mk.injEq, Array.push_eq_push] at this
          have hzt : z' = z ∧ t' = t := by
            have h9 : mk w1.heap.size = mk' w1.heap.size ∧ z = z' ∧ t = t' := by simpa using this
            exact ⟨h9.2.1.symm, h9.2.2.symm⟩
          refine ⟨hzt.1, hzt.2, funext fun n => ?_⟩
          have hn := hz' { w1 with heap := Array.replicate n (.cells #[] 0) }
          rw [hz] at hn
          simp only [Result.ok.injEq, Next.value.injEq, Array.size_replicate] at hn
          exact hn.1.symm
        unfold stepG
        rw [if_pos hwj, hfj]
        refine ⟨z, t, mk, hz, fun b hb hn hx => ?_⟩
        refine (stepG_put hsi (d := oj.dst) a3 a2' _).2 ?_
        -- i, with block b laid already
        unfold stepG at h0 ⊢
        rw [if_pos hwi] at h0 ⊢
        cases hfi : fkG oi.op with
        | pure => exact absurd hfi hnpi
        | call =>
          rw [hfi] at h0
          intro w hw
          have hbl := hw.laid b (z, t) (by unfold Fl.put; simp)
          refine Oper.wp_mono (fun a' w' hh => ?_) (h0 w (hw.less hn))
          obtain ⟨hC, hkeep, hh⟩ := hh
          obtain ⟨z', t', mk', hz', hk⟩ := hin a' F ⟨hh.1.1, hh.2⟩
          obtain ⟨rfl, rfl, rfl⟩ := huniq z' t' mk' hz'
          have hC' : Cls St I w0 (F.put b (z', t')) w' := by
            refine ⟨hC.same, hC.inv, hC.size, fun c x hx => ?_⟩
            unfold Fl.put at hx
            by_cases hcb : c = b
            · rw [if_pos hcb] at hx
              cases hx
              subst hcb
              exact ⟨hb, (hkeep c hb hbl.2.lt).trans hbl.2⟩
            · rw [if_neg hcb] at hx
              exact hC.laid c x hx
          exact ⟨hC', hkeep, hk b hb hn hx⟩
        | float =>
          rw [hfi] at h0
          obtain ⟨zi, ti, mki, hri, hki⟩ := h0
          refine ⟨zi, ti, mki, hri, fun bi hbi hni hxi => ?_⟩
          have hne : bi ≠ b := fun e => by unfold Fl.put at hni; rw [e] at hni; simp at hni
          have hni' : F bi = none := by unfold Fl.put at hni; rwa [if_neg hne] at hni
          obtain ⟨w2, hw2⟩ := hxi
          rw [Fl.put_comm F (Ne.symm hne)] at hw2 ⊢
          have hnb : (F.put bi (zi, ti)) b = none := by unfold Fl.put; rw [if_neg (Ne.symm hne)]; exact hn
          have hq := hki bi hbi hni' ⟨w2, hw2.less hnb⟩
          obtain ⟨z', t', mk', hz', hk⟩ := hin _ _ ⟨hq.1.1, hq.2⟩
          obtain ⟨rfl, rfl, rfl⟩ := huniq z' t' mk' hz'
          exact hk b hb hnb ⟨w2, hw2⟩
        | store =>
          rw [hfi] at h0
          obtain ⟨bi, old, cs, ti, hbi, hri, hki⟩ := h0
          have hne : bi ≠ b := fun e => by rw [e, hn] at hbi; cases hbi
          refine ⟨bi, old, cs, ti, by unfold Fl.put; rw [if_neg hne]; exact hbi, fun w hw => hri w (hw.less hn), ?_⟩
          obtain ⟨z', t', mk', hz', hk⟩ := hin _ _ ⟨hki.1.1, hki.2⟩
          obtain ⟨rfl, rfl, rfl⟩ := huniq z' t' mk' hz'
          obtain ⟨w2, hw2⟩ := hx
          have hrow := hw2.setRow hl hst (b := bi) (old := old) (cs := cs) (t := ti) (by unfold Fl.put; rw [if_neg hne]; exact hbi)
          rw [Fl.put_comm F (Ne.symm hne)] at hrow ⊢
          exact hk b hb (by unfold Fl.put; rw [if_neg (Ne.symm hne)]; exact hn) ⟨_, hrow⟩
    · refine PutsG.step (.inr ⟨by simpa using hwj, rfl⟩) (hput undef fun a' F' hh => ?_)
      obtain ⟨⟨⟨u, hu⟩, -, -⟩, hk⟩ := hh
      unfold stepG at hk
      rw [hu, wanted_put oj a oi.dst u a1, if_neg hwj] at hk
      exact hk

theorem frontG {Q : Act → Fl → Prop} {oj : Oper} (hsj : ∀ cs b, oj.op ≠ .select cs b) (hokj : okOp P oj = true) (l2 : List Oper) :
    ∀ (l1 : List Oper), (∀ oi ∈ l1, (∀ cs b, oi.op ≠ .select cs b) ∧ okOp P oi = true ∧ oi.apart ops oj = true ∧ pairG oi.op oj.op = true) → ∀ (a : Act) (F : Fl) (w1 : World), Lasting w0.heap.size I → (∀ k, St k → k < w0.heap.size) → Cls St I w0 F w1 →
      wpG P St I w0 ops Q (l1 ++ oj :: l2) a F → stepG P St I w0 ops oj (wpG P St I w0 ops Q (l1 ++ l2)) a F := by
  intro l1
  induction l1 with
  | nil => intro _ a F w1 _ _ _ h; exact h
  | cons oi l1 ih =>
    intro hall a F w1 hl hst hc h
    obtain ⟨hsi, hoki, hap, hpr⟩ := hall oi (by simp)
    -- the rest of the list is walked in worlds that come of w1: which ones there are is read off the step itself
    have hrest : stepG P St I w0 ops oi (fun a' F' => (∃ w2, Cls St I w0 F' w2) → stepG P St I w0 ops oj (wpG P St I w0 ops Q (l1 ++ l2)) a' F') a F :=
      stepG_mono (fun a' F' hh hne => by obtain ⟨w2, h2⟩ := hne; exact ih (fun k hk => hall k (by simp [hk])) a' F' w2 hl hst h2 hh) h
    have hgo : stepG P St I w0 ops oi (stepG P St I w0 ops oj (wpG P St I w0 ops Q (l1 ++ l2))) a F := by
      unfold stepG at hrest
      rw [show stepG P St I w0 ops oi (stepG P St I w0 ops oj (wpG P St I w0 ops Q (l1 ++ l2))) a F = _ from by rw [stepG]]
      split
      · rename_i hw
        rw [if_pos hw] at hrest
        split <;> rename_i hf <;> rw [hf] at hrest <;> simp only at hrest
        · intro hok; obtain ⟨v, h1, h2⟩ := hrest hok; exact ⟨v, h1, h2 ⟨w1, hc⟩⟩
        · exact fun w hw => Oper.wp_mono (fun a w h => ⟨h.1, h.2.1, h.2.2 ⟨w1, hc⟩⟩) (hrest w hw)
        · obtain ⟨z, t, mk, h1, h2⟩ := hrest
          exact ⟨z, t, mk, h1, fun b hb hn hx => h2 b hb hn hx hx⟩
        · obtain ⟨b, old, cs, t, h1, h2, h3⟩ := hrest
          exact ⟨b, old, cs, t, h1, h2, h3 ⟨_, hc.setRow hl hst h1⟩⟩
      · rename_i hw; rw [if_neg hw] at hrest; exact hrest ⟨w1, hc⟩
    exact swapG hsi hsj hoki hokj hap hpr hl hst hc hgo
theorem stepG_op {Q' : Exit → Act → World → Prop} {j : Nat} {oj : Oper} (hj : ops[j]? = some oj) (hokj : okOp P oj = true) {K : Act → Fl → Prop} {a : Act} {F : Fl} {w : World} (hl : Lasting w0.heap.size I) (hst : ∀ k, St k → k < w0.heap.size) (hc : Cls St I w0 F w) (h : stepG P St I w0 ops oj K a F) :
    wpOp P ops Q' j (fun a' w' => ∃ F', Cls St I w0 F' w' ∧ K a' F') a w := by
  unfold stepG at h
  unfold wpOp
  rw [hj]
  simp only
  split
  · rename_i hw
    rw [if_pos hw] at h
    refine .inl ?_
    cases hf : fkG oj.op with
    | pure =>
      rw [hf] at h
      obtain ⟨v, h1, h2⟩ := h hokj
      simp only [Oper.wp, PureG.run h1 hc, Oper.upon]
      exact ⟨F, hc, h2⟩
    | call =>
      rw [hf] at h
      exact wp_false (Oper.wp_mono (fun a' w' hh => ⟨F, hh.1, hh.2.2⟩) (h w hc))
    | float =>
      rw [hf] at h
      obtain ⟨z, t, mk, h1, h2⟩ := h
      simp only [Oper.wp, h1 w, Oper.upon]
      have hc' := hc.alloc hl hst z t
      exact ⟨_, hc', h2 w.heap.size hc.size (by
        cases hF : F w.heap.size with
        | none => rfl
        | some x => exact absurd (hc.laid _ _ hF).2.lt (by omega)) ⟨_, hc'⟩⟩
    | store =>
      rw [hf] at h
      obtain ⟨b, old, cs, t, h1, h2, h3⟩ := h
      simp only [Oper.wp, h2 w hc, Oper.upon]
      exact ⟨_, hc.setRow hl hst h1, h3⟩
  · rename_i hw; rw [if_neg hw] at h; exact ⟨F, hc, h⟩
def orderG (ops : Array Oper) (cert : Array Nat) : List Nat → Bool
  | [] => true
  | x :: l => (match ops[x]? with
      | none => false
      | some ox => (ox.after.all fun e => !Region.binds .any e || !l.contains e.on) && l.all fun y => match ops[y]? with
        | none => false
        | some oy => (decide (x < y) && (cert.getD y 0).testBit x) || (ox.apart ops oy && pairG ox.op oy.op)) && orderG ops cert l
theorem orderG_drop {cert : Array Nat} {j : Nat} (l2 : List Nat) : ∀ (l1 : List Nat), orderG ops cert (l1 ++ j :: l2) = true → orderG ops cert (l1 ++ l2) = true := by
  intro l1
  induction l1 with
  | nil => intro h; simp only [List.nil_append, orderG, Bool.and_eq_true] at h; exact h.2
  | cons x l1 ih =>
    intro h
    simp only [List.cons_append, orderG, Bool.and_eq_true] at h ⊢
    refine ⟨?_, ih h.2⟩
    cases hx : ops[x]? with
    | none => rw [hx] at h; simp at h
    | some ox =>
      rw [hx] at h
      simp only [Bool.and_eq_true] at h ⊢
      obtain ⟨⟨h1, h2⟩, _⟩ := h
      refine ⟨?_, ?_⟩
      · rw [Array.all_eq_true_iff_forall_mem] at h1 ⊢
        intro e he
        have := h1 e he
        simp only [Bool.or_eq_true, Bool.not_eq_true', List.contains_eq_mem, decide_eq_false_iff_not, List.mem_append, List.mem_cons] at this ⊢
        exact this.imp id fun this hh => this (by rcases hh with h | h; exact .inl h; exact .inr (.inr h))
      · rw [List.all_eq_true] at h2 ⊢
        intro y hy
        exact h2 y (by rcases List.mem_append.1 hy with h | h <;> simp [h])
theorem orderG_at {cert : Array Nat} {j : Nat} {oj : Oper} (hj : ops[j]? = some oj) (l2 : List Nat) : ∀ (l1 : List Nat), orderG ops cert (l1 ++ j :: l2) = true → ∀ x ∈ l1, ∃ ox, ops[x]? = some ox ∧ ((x < j ∧ (cert.getD j 0).testBit x = true) ∨ (ox.apart ops oj = true ∧ pairG ox.op oj.op = true)) := by
  intro l1
  induction l1 with
  | nil => intro _ x hx; cases hx
  | cons y l1 ih =>
    intro h x hx
    simp only [List.cons_append, orderG, Bool.and_eq_true] at h
    rcases List.mem_cons.1 hx with hx | hx
    · subst hx
      cases hy : ops[x]? with
      | none => rw [hy] at h; simp at h
      | some ox =>
        rw [hy] at h
        simp only [Bool.and_eq_true] at h
        have := List.all_eq_true.1 h.1.2 j (by simp)
        rw [hj] at this
        simp only [Bool.or_eq_true, Bool.and_eq_true, decide_eq_true_eq] at this
        exact ⟨ox, rfl, this⟩
    · exact ih h.2 x hx

theorem lit_sound {cert : Array Nat} (hback : backB ops cert = true) (hsel : Region.noSelect ops = true) (hok : ops.all (okOp P) = true) (hl : Lasting w0.heap.size I) (hst : ∀ k, St k → k < w0.heap.size) {Q : Act → Fl → Prop} {Q' : Exit → Act → World → Prop} (hQ : ∀ a w F, Cls St I w0 F w → Q a F → Q' .normal a w) :
    ∀ (fuel : Nat) (l : List Nat) (listed : Array Bool) (a : Act) (w : World) (F : Fl), l.length ≤ fuel → (∀ i, i ∈ l ↔ i < ops.size ∧ listed.getD i true = false) → l.Nodup → orderG ops cert l = true →
      Closed ops listed → listed.size = ops.size → Cls St I w0 F w → wpG P St I w0 ops Q (l.filterMap (ops[·]?)) a F → wpAny P .any ops Q' fuel listed a w := by
  intro fuel
  induction fuel with
  | zero =>
    intro l listed a w F hlen hmem _ _ _ _ hc h
    have hnil : l = [] := List.eq_nil_of_length_eq_zero (by omega)
    subst hnil
    refine ⟨?_, hQ _ _ _ hc h⟩
    refine List.eq_nil_iff_forall_not_mem.2 fun j hj => ?_
    obtain ⟨h0, o, ho, _⟩ := mem_ready.1 hj
    have := (hmem j).2 ⟨(Array.getElem?_eq_some_iff.1 ho).1, h0⟩
    cases this
  | succ fuel ih =>
    intro l listed a w F hlen hmem hnd hord hcl hsz hc h
    have hunl : ∀ i, i < ops.size → i ∉ l → listed.getD i false = true := fun i hi hn => by
      have h1 : ¬ listed.getD i true = false := fun hh => hn ((hmem i).2 ⟨hi, hh⟩)
      have hi' : i < listed.size := by omega
      simp [hi'] at h1 ⊢
      exact h1
    refine ⟨fun hr => ?_, fun j hj => ?_⟩
    · cases l with
      | nil => exact hQ _ _ _ hc h
      | cons i l =>
        exfalso
        obtain ⟨hi, hi0⟩ := (hmem i).1 (by simp)
        have hio : ops[i]? = some ops[i] := Array.getElem?_eq_getElem hi
        have hin : i ∈ Region.ready .any ops listed := mem_ready.2 ⟨hi0, _, hio, fun e he hb => by
          have hlt := (back_at hback hio).1 e he hb
          simp only [orderG, hio, Bool.and_eq_true] at hord
          have := (Array.all_eq_true_iff_forall_mem.1 hord.1.1) e he
          simp only [hb, Bool.not_true, Bool.false_or, Bool.not_eq_true', List.contains_eq_mem, decide_eq_false_iff_not] at this
          refine hunl e.on (by omega) fun hin => ?_
          rcases List.mem_cons.1 hin with h | h
          · omega
          · exact this h⟩
        rw [hr] at hin
        cases hin
    · obtain ⟨h0, oj, hoj, hall⟩ := mem_ready.1 hj
      have hjlt : j < ops.size := (Array.getElem?_eq_some_iff.1 hoj).1
      obtain ⟨l1, l2, rfl⟩ := List.append_of_mem ((hmem j).2 ⟨hjlt, h0⟩)
      have hsel' := Region.noSelect_spec hsel
      have hokj : okOp P oj = true := Array.all_eq_true_iff_forall_mem.1 hok oj (Array.mem_of_getElem? hoj)
      rw [List.filterMap_append, List.filterMap_cons_some hoj] at h
      have hfront := frontG (P := P) (St := St) (I := I) (w0 := w0) (hsel' j oj · · hoj) hokj _ _ (fun oi hoi => by
        obtain ⟨x, hx, hxo⟩ := List.mem_filterMap.1 hoi
        obtain ⟨ox, hox, hcase⟩ := orderG_at hoj l2 l1 hord x hx
        rw [hox] at hxo
        cases hxo
        refine ⟨fun cs b => hsel' x _ cs b hox, Array.all_eq_true_iff_forall_mem.1 hok _ (Array.mem_of_getElem? hox), ?_⟩
        rcases hcase with ⟨hlt, hb⟩ | hcase
        · exfalso
          have h1 := back_listed hback hcl j j oj (Nat.le_refl _) hoj hall x hlt hb
          have h2 := ((hmem x).1 (by simp [hx])).2
          have hi' : x < listed.size := by omega
          simp [hi'] at h1 h2
          rw [h1] at h2; cases h2
        · exact hcase) a F w hl hst hc h
      refine wpOp_mono (fun a' w' hh => ?_) (stepG_op hoj hokj hl hst hc hfront)
      obtain ⟨F', hc', hh⟩ := hh
      rw [← List.filterMap_append] at hh
      have hnd' := hnd
      rw [List.nodup_append] at hnd'
      have hj1 : j ∉ l1 := fun hin => hnd'.2.2 j hin j (by simp) rfl
      have hj2 : j ∉ l2 := (List.nodup_cons.1 hnd'.2.1).1
      refine ih (l1 ++ l2) _ a' w' F' (by simp at hlen ⊢; omega) (fun i => ?_) ?_ (orderG_drop l2 l1 hord) ?_ (by simpa using hsz) hc' hh
      · have hne : ∀ i, i ∈ l1 ++ l2 → i ≠ j := fun i hi e => by
          subst e
          rcases List.mem_append.1 hi with h | h
          · exact hj1 h
          · exact hj2 h
        constructor
        · intro hi
          obtain ⟨h1, h2⟩ := (hmem i).1 (by rcases List.mem_append.1 hi with h | h <;> simp [h])
          exact ⟨h1, by rw [getD_set_ne true (Ne.symm (hne i hi))]; exact h2⟩
        · rintro ⟨h1, h2⟩
          have hij : i ≠ j := fun e => by subst e; simp [show i < listed.size by omega] at h2
          rw [getD_set_ne true (Ne.symm hij)] at h2
          have := (hmem i).2 ⟨h1, h2⟩
          rcases List.mem_append.1 this with h | h
          · simp [h]
          · rcases List.mem_cons.1 h with h | h
            · exact absurd h hij
            · simp [h]
      · rw [List.nodup_append]
        exact ⟨hnd'.1, (List.nodup_cons.1 hnd'.2.1).2, fun x hx y hy => hnd'.2.2 x hx y (by simp [hy])⟩
      · intro k o hk hlk e he hb
        by_cases hkj : k = j
        · subst hkj
          rw [hoj] at hk
          cases hk
          exact getD_set_true (hall e he hb)
        · rw [getD_set_ne false (Ne.symm hkj)] at hlk
          exact getD_set_true (hcl k o hk hlk e he hb)

/-- The order that the walk takes: a list of all operations' numbers, in which each new block stands just ahead of the store into it. -/
def canonG (ops : Array Oper) (l : List Nat) : Bool := (List.range ops.size).all (fun i => l.contains i) && l.all (fun i => decide (i < ops.size)) && decide l.Nodup && decide (l.length ≤ ops.size) && orderG ops (Region.before ops) l && backB ops (Region.before ops)

theorem wp_region_g {id : Nat} {l : List Oper} {a : Act} {w : World} (hm : P.follows .mixedOrders = true) (canon : List Nat) (hcan : canonG l.toArray canon = true) (hsel : Region.noSelect l.toArray = true) (hok : l.toArray.all (okOp P) = true) (St : Nat → Prop) (I : World → Prop) (hst : ∀ k, St k → k < w.heap.size) (hl : Lasting w.heap.size I) (hI : I w.drew) {Q' : Exit → Act → World → Prop}
    (h : ∀ w0, w0 = w.drew → wpG P St I w0 l.toArray (fun a F => ∀ w, Cls St I w0 F w → Q' .normal a w) (canon.filterMap (l.toArray[·]?)) a fun _ => none) : (Code.region id l.toArray true).wp P Q' a w := by
  unfold canonG at hcan
  simp only [Bool.and_eq_true, List.all_eq_true, decide_eq_true_eq, List.contains_eq_mem] at hcan
  obtain ⟨⟨⟨⟨⟨h1, h2⟩, h3⟩, hlen⟩, h4⟩, h5⟩ := hcan
  refine wp_region_any hm (lit_sound (w0 := w.drew) h5 hsel hok hl hst (fun a w F hc h => h w hc) _ canon _ a w.drew (fun _ => none) hlen (fun i => ?_) h3 h4 ?_ (by simp) ⟨Same.refl _ _, hI, Nat.le_refl _, fun b x hx => by cases hx⟩ (h w.drew rfl))
  · constructor
    · intro hi; have h := h2 i hi; refine ⟨h, ?_⟩; simp at h; simp [h]
    · exact fun hh => h1 i (List.mem_range.2 hh.1)
  · intro k o _ hk
    exfalso
    rcases Nat.lt_or_ge k l.toArray.size with hh | hh
    · simp at hh; simp [hh] at hk
    · simp at hh; simp [Nat.not_lt.2 hh] at hk
end
/-! ### The walk's steps -/
section
variable {P : Program} {ops : Array Oper} {St : Nat → Prop} {I : World → Prop} {w0 : World} {Q : Act → Fl → Prop} {o : Oper} {rest : List Oper} {a : Act} {F : Fl}
theorem wpG_nil (h : Q a F) : wpG P St I w0 ops Q [] a F := h
theorem wpG_skip (hw : Region.wanted o (yielded ops a.tmps) = false) (h : wpG P St I w0 ops Q rest (a.put o.dst undef) F) : wpG P St I w0 ops Q (o :: rest) a F := by
  unfold wpG stepG
  rw [if_neg (by rw [hw]; simp)]
  exact h
theorem wpG_steady (hw : Region.wanted o (yielded ops a.tmps) = true) (hp : fkG o.op = .pure)
    (hs : okOp P o = true → ∀ x w1, (execOp a.eval o).run P w0 = .ok x w1 → w1 = w0 ∧ (∃ v, x = .value v) ∧ ∀ w', Same St w0 w' → (execOp a.eval o).run P w' = .ok x w')
    (h : ∀ K : Act → World → Prop, (∀ a w, wpG P St I w0 ops Q rest a F → K a w) → o.wp P a w0 K (fun _ _ _ => False)) : wpG P St I w0 ops Q (o :: rest) a F := by
  unfold wpG stepG
  rw [if_pos hw, hp]
  intro hok
  have h1 := h (fun a _ => wpG P St I w0 ops Q rest a F) (fun _ _ h => h)
  have h2 := hs hok
  unfold Oper.wp at h1
  cases hr : (execOp a.eval o).run P w0 with
  | halt x w1 =>
    rw [hr] at h1
    cases x <;> simp only [Oper.upon] at h1
  | ok x w1 =>
    obtain ⟨rfl, ⟨v, rfl⟩, h3⟩ := h2 x w1 hr
    rw [hr] at h1
    exact ⟨v, .inl h3, h1⟩
theorem wpG_free (hw : Region.wanted o (yielded ops a.tmps) = true) (hp : fkG o.op = .pure) (hf : freeAt a.eval o = true)
    (h : ∀ K : Act → World → Prop, (∀ a w, wpG P St I w0 ops Q rest a F → K a w) → o.wp P a w0 K (fun _ _ _ => False)) : wpG P St I w0 ops Q (o :: rest) a F :=
  wpG_steady hw hp (fun hok x w1 hr => by
    have hs := freeAt_steady hf hok
    obtain ⟨h1, h2, _⟩ := hs w0 w0 x w1 hr
    exact ⟨h1, h2, fun w' _ => (hs w0 w' x w1 hr).2.2⟩) h
theorem wpG_load (hw : Region.wanted o (yielded ops a.tmps) = true) {t : TypeId} {x : Operand} {p : Addr} (ho : o.op = .load t x) (hx : a.eval x = .pointer (some p)) (hS : St p.block) (hc : (w0.cell? p).isSome = true)
    (h : ∀ K : Act → World → Prop, (∀ a w, wpG P St I w0 ops Q rest a F → K a w) → o.wp P a w0 K (fun _ _ _ => False)) : wpG P St I w0 ops Q (o :: rest) a F :=
  wpG_steady hw (by rw [ho]; rfl) (fun _ y w1 hr => by
    have hrun : ∀ v : World, (execOp a.eval o).run P v = ((Instr.loadAt t (.pointer (some p))).run P v).andThen fun u w' => .ok (.value u) w' := fun v => by
      unfold execOp
      rw [ho]
      simp only [hx, Sem.run_bind, Sem.run_pure]
    rw [hrun] at hr
    cases hl : (Instr.loadAt t (.pointer (some p))).run P w0 with
    | halt z w2 => rw [hl] at hr; cases hr
    | ok u w2 =>
      rw [hl] at hr
      simp only [Result.andThen_ok, Result.ok.injEq] at hr
      obtain ⟨rfl, rfl⟩ := hr
      refine ⟨(load_steady (P := P) (w' := w0) rfl hc hl).1, ⟨u, rfl⟩, fun w' hw' => ?_⟩
      have := (load_steady (P := P) (w := w0) (w' := w') (hw' _ hS) hc hl).2
      rw [hrun, this]
      rfl) h
theorem wpG_call (hw : Region.wanted o (yielded ops a.tmps) = true) (hp : fkG o.op = .call)
    (h : ∀ w, Cls St I w0 F w → ∀ K : Act → World → Prop, (∀ a w', (Cls St I w0 F w' ∧ (∀ k, w0.heap.size ≤ k → k < w.heap.size → w'.heap[k]? = w.heap[k]?) ∧ wpG P St I w0 ops Q rest a F) → K a w') → o.wp P a w K (fun _ _ _ => False)) : wpG P St I w0 ops Q (o :: rest) a F := by
  unfold wpG stepG
  rw [if_pos hw, hp]
  exact fun w hc => h w hc _ (fun _ _ h => h)
theorem wpG_float (hw : Region.wanted o (yielded ops a.tmps) = true) (hp : fkG o.op = .float) (z : Array Value) (t : TypeId) (hr : ∀ w, (execOp a.eval o).run P w = .ok (.value (.pointer (some ⟨w.heap.size, 0, none⟩))) (w.alloc (.cells z t)))
    (h : ∀ b, w0.heap.size ≤ b → F b = none → ∀ K : Act → World → Prop, (∀ a w, wpG P St I w0 ops Q rest a (F.put b (z, t)) → K a w) → K (a.put o.dst (.pointer (some ⟨b, 0, none⟩))) w0) : wpG P St I w0 ops Q (o :: rest) a F := by
  unfold wpG stepG
  rw [if_pos hw, hp]
  exact ⟨z, t, fun b => .pointer (some ⟨b, 0, none⟩), hr, fun b hb hn _ => h b hb hn (fun a _ => wpG P St I w0 ops Q rest a (F.put b (z, t))) (fun _ _ h => h)⟩
theorem wpG_store (hw : Region.wanted o (yielded ops a.tmps) = true) {ty t : TypeId} {x y : Operand} (ho : o.op = .store ty x y) {b : Nat} {old cs : Array Value} {v : Value} (hx : a.eval x = .pointer (some ⟨b, 0, none⟩)) (hy : a.eval y = v)
    (hF : F b = some (old, t)) (hcs : v.cells = cs) (hi : (P.info? ty).map (·.size) = some cs.size) (hz : old.size = cs.size) (h1 : cs.toList.all (·.oneCell') = true)
    (h : ∀ K : Act → World → Prop, (∀ a w, wpG P St I w0 ops Q rest a (F.put b (cs, t)) → K a w) → K (a.put o.dst undef) w0) : wpG P St I w0 ops Q (o :: rest) a F := by
  unfold wpG stepG
  rw [if_pos hw, show fkG o.op = .store from by rw [ho]; rfl]
  refine ⟨b, old, cs, t, hF, fun w hc => ?_, h (fun a _ => wpG P St I w0 ops Q rest a (F.put b (cs, t))) (fun _ _ h => h)⟩
  have hb := (hc.laid b _ hF).2
  unfold execOp
  rw [ho]
  simp only [hx, hy, Sem.run_bind, Sem.run_pure, Instr.storeAt, Instr.sureAddr, Result.andThen_ok]
  have := run_storeCells_from (P := P) b t cs.toList 0 old w hb (by simp; omega) (fun v hv => List.all_eq_true.1 h1 v hv)
  cases hq : P.info? ty with
  | none => simp [hq] at hi
  | some i =>
    have hs : cs.size = i.size := by simp [hq] at hi; omega
    simp only [storeVar, sizeOf, typeInfo, Sem.run_bind, run_program, hq, Result.andThen_ok, Sem.run_pure, hcs, hs, ne_eq, not_true, if_false]
    rw [this]
    rfl
/-- A literal slice is built. -/
theorem wpG_lit (hw : Region.wanted o (yielded ops a.tmps) = true) (hp : fkG o.op = .float) (z : Array Value) (t : TypeId) (n : Nat) (hr : ∀ w, (execOp a.eval o).run P w = .ok (.value (.slice (some ⟨w.heap.size, 0, none⟩) n n)) (w.alloc (.cells z t)))
    (h : ∀ b, w0.heap.size ≤ b → F b = none → ∀ K : Act → World → Prop, (∀ a w, wpG P St I w0 ops Q rest a (F.put b (z, t)) → K a w) → K (a.put o.dst (.slice (some ⟨b, 0, none⟩) n n)) w0) : wpG P St I w0 ops Q (o :: rest) a F := by
  unfold wpG stepG
  rw [if_pos hw, hp]
  exact ⟨z, t, fun b => .slice (some ⟨b, 0, none⟩) n n, hr, fun b hb hn _ => h b hb hn (fun a _ => wpG P St I w0 ops Q rest a (F.put b (z, t))) (fun _ _ h => h)⟩
/-- A cell of it is loaded. -/
theorem wpG_look (hw : Region.wanted o (yielded ops a.tmps) = true) {t : TypeId} {x : Operand} {b k : Nat} (ho : o.op = .load t x) (hx : a.eval x = .pointer (some ⟨b, k, none⟩)) (hag : ∀ w, (isAgg t).run P w = .ok false w) {cs : Array Value} {ty : TypeId} {v : Value} (hF : F b = some (cs, ty)) (hv : cs[k]? = some v)
    (h : ∀ K : Act → World → Prop, (∀ a w, wpG P St I w0 ops Q rest a F → K a w) → K (a.put o.dst v) w0) : wpG P St I w0 ops Q (o :: rest) a F := by
  have hrun : ∀ w : World, (execOp a.eval o).run P w = ((load ⟨b, k, none⟩).run P w).andThen fun u w' => .ok (.value u) w' := fun w => by
    unfold execOp
    rw [ho]
    simp only [hx, Sem.run_bind, Sem.run_pure, Instr.loadAt, Instr.sureAddr, loadVar, hag, Result.andThen_ok, Bool.false_eq_true, if_false]
  unfold wpG stepG
  rw [if_pos hw, show fkG o.op = .pure from by rw [ho]; rfl]
  refine fun _ => ⟨v, .inr ⟨by rw [ho]; rfl, b, cs, ty, hF, fun w hb => ?_, fun w u w' hn hr => ?_⟩, h (fun a _ => wpG P St I w0 ops Q rest a F) (fun _ _ h => h)⟩
  · rw [hrun, run_load, hb.cell, hv]; rfl
  · rw [hrun, run_load] at hr
    have h1 : w.cell? ⟨b, k, none⟩ = none := by unfold World.cell?; simp [hn]
    have h2 : w.farLoad P ⟨b, k, none⟩ (Mode.plain == Mode.atomic) = .error (w.noCell ⟨b, k, none⟩ "load: no such cell") := by unfold World.farLoad; simp [hn]
    rw [h1, h2] at hr
    cases hr
end
/-! ### With the bundle -/
section
variable {P : Program} {D : Nat → Prop} {W : World} {L : List Item}
theorem wp_region_gH {id : Nat} {l : List Oper} {a : Act} {w : World} (hm : P.follows .mixedOrders = true) (canon : List Nat) (hcan : canonG l.toArray canon = true) (hsel : Region.noSelect l.toArray = true) (hok : l.toArray.all (okOp P) = true) (X : Nat → Prop) (H : HS D W L w) {Q' : Exit → Act → World → Prop}
    (h : ∀ w0, HS D W L w0 → w0.heap.size = w.heap.size → wpG P (Stay X w0) (fun w' => HS D W L w') w0 l.toArray (fun a F => ∀ w', Cls (Stay X w0) (fun w' => HS D W L w') w0 F w' → Q' .normal a w') (canon.filterMap (l.toArray[·]?)) a fun _ => none) : (Code.region id l.toArray true).wp P Q' a w :=
  wp_region_g hm canon hcan hsel hok (Stay X w) (fun w' => HS D W L w') (fun _ h => h.1) (lasting_hs H.lts H.size) H.drew fun w0 hw0 => by
    have e : w0.heap.size = w.heap.size := by rw [hw0]; rfl
    have := h w0 (by rw [hw0]; exact H.drew) e
    unfold Stay at this ⊢
    rw [e] at this
    exact this
end
end Go.Proofs.Ytfmcicmbehjdcaa
