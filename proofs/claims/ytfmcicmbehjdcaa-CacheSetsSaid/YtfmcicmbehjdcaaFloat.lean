/- A region that draws its order and lays new variables in it ('a, b := f(), g()' with a and b in memory): the variables' blocks may be laid at any time; one walk that never looks at the world serves every order. -/
import Derived.Test.YtfmcicmbehjdcaaText
import Derived.Laws.Tables
import Derived.Great.BuildSlice
namespace Go.Proofs.Ytfmcicmbehjdcaa
set_option linter.unusedSimpArgs false
set_option linter.unusedVariables false
open Go.RowKit

/-- What is known of blocks that the region has laid: their cells and type. -/
abbrev Fl := Nat → Option (Array Value × TypeId)
def Fl.put (F : Fl) (b : Nat) (x : Array Value × TypeId) : Fl := fun k => if k = b then some x else F k
theorem Fl.put_comm (F : Fl) {b c : Nat} (h : b ≠ c) (x y : Array Value × TypeId) : (F.put b x).put c y = (F.put c y).put b x := by
  funext k
  unfold Fl.put
  by_cases h1 : k = c <;> by_cases h2 : k = b <;> simp_all
theorem Fl.at (F : Fl) (b : Nat) (x : Array Value × TypeId) : F.put b x b = some x := by unfold Fl.put; rw [if_pos rfl]
theorem Fl.ne (F : Fl) {b c : Nat} (h : c ≠ b) (x : Array Value × TypeId) : F.put b x c = F c := by unfold Fl.put; rw [if_neg h]
theorem Fl.put_same (F : Fl) (b : Nat) (x y : Array Value × TypeId) : (F.put b x).put b y = F.put b y := by
  funext k
  unfold Fl.put
  by_cases h : k = b <;> simp [h]

structure Cls (St : Nat → Prop) (I : World → Prop) (w0 : World) (F : Fl) (w : World) : Prop where
  same : Same St w0 w
  inv : I w
  size : w0.heap.size ≤ w.heap.size
  laid : ∀ b x, F b = some x → w0.heap.size ≤ b ∧ Blk w b x.1 x.2

/-- An invariant that new blocks and writes to blocks from N on leave. -/
structure Lasting (N : Nat) (I : World → Prop) : Prop where
  new : ∀ w o, I w → I (w.alloc o)
  row : ∀ w b cs, N ≤ b → I w → I (w.setRow b cs)

inductive FK where
  | pure | call | float | store
  deriving DecidableEq
def fkOp : Op → FK
  | .alloc _ => .float
  | .store .. => .store
  | o => if effOp o then .call else .pure

section
variable (P : Program) (St : Nat → Prop) (I : World → Prop) (w0 : World)
/-- One operation, seen without the world: K: what is to hold of the frame and of the blocks behind it. -/
def stepF (ops : Array Oper) (o : Oper) (K : Act → Fl → Prop) (a : Act) (F : Fl) : Prop :=
  if Region.wanted o (yielded ops a.tmps) = true then
    match fkOp o.op with
    | .pure => okOp P o = true → ∃ v, YieldsS P (SW.of St w0) o v a ∧ K (a.put o.dst v) F
    | .call => ∀ w, Cls St I w0 F w → o.wp P a w (fun a' w' => Cls St I w0 F w' ∧ (∀ k, w0.heap.size ≤ k → k < w.heap.size → w'.heap[k]? = w.heap[k]?) ∧ K a' F) (fun _ _ _ => False)
    | .float => ∃ z t, (∀ w, (execOp a.eval o).run P w = .ok (.value (.pointer (some ⟨w.heap.size, 0, none⟩))) (w.alloc (.cells z t))) ∧ ∀ b, w0.heap.size ≤ b → F b = none → (∃ w, Cls St I w0 (F.put b (z, t)) w) → K (a.put o.dst (.pointer (some ⟨b, 0, none⟩))) (F.put b (z, t))
    | .store => ∃ b old cs t, F b = some (old, t) ∧ (∀ w, Cls St I w0 F w → (execOp a.eval o).run P w = .ok .skip (w.setRow b cs)) ∧ K (a.put o.dst undef) (F.put b (cs, t))
  else K (a.put o.dst undef) F
def wpF (ops : Array Oper) (Q : Act → Fl → Prop) : List Oper → Act → Fl → Prop
  | [], a, F => Q a F
  | o :: l, a, F => stepF P St I w0 ops o (wpF ops Q l) a F
end

section
variable {P : Program} {ops : Array Oper} {St : Nat → Prop} {I : World → Prop} {w0 : World}

theorem heap_setRow_other (w : World) (g k : Nat) (cs : Array Value) (h : k ≠ g) : (w.setRow g cs).heap[k]? = w.heap[k]? := by
  unfold World.setRow
  simp only [Array.getElem?_modify]
  rw [if_neg (by omega)]
theorem Blk.setRow {w : World} {b : Nat} {old : Array Value} {t : TypeId} (h : Blk w b old t) (cs : Array Value) : Blk (w.setRow b cs) b cs t := by
  unfold Blk at *
  unfold World.setRow
  rw [Array.getElem?_modify]; simp [h]
theorem size_setRow (w : World) (g : Nat) (cs : Array Value) : (w.setRow g cs).heap.size = w.heap.size := by simp [World.setRow]

theorem Cls.alloc {F : Fl} {w : World} (hl : Lasting w0.heap.size I) (hst : ∀ k, St k → k < w0.heap.size) (h : Cls St I w0 F w) (z : Array Value) (t : TypeId) : Cls St I w0 (F.put w.heap.size (z, t)) (w.alloc (.cells z t)) := by
  refine ⟨fun k hk => (Below.heap_alloc _ _ _ (Nat.lt_of_lt_of_le (hst k hk) h.size)).trans (h.same k hk), hl.new _ _ h.inv, by simpa using Nat.le_succ_of_le h.size, fun b x hb => ?_⟩
  unfold Fl.put at hb
  by_cases hbe : b = w.heap.size
  · rw [if_pos hbe] at hb
    cases hb
    exact ⟨by rw [hbe]; exact h.size, by rw [hbe]; exact Blk.new w z t⟩
  · rw [if_neg hbe] at hb
    obtain ⟨h1, h2⟩ := h.laid b x hb
    exact ⟨h1, h2.alloc _⟩
theorem Cls.setRow {F : Fl} {w : World} (hl : Lasting w0.heap.size I) (hst : ∀ k, St k → k < w0.heap.size) (h : Cls St I w0 F w) {b : Nat} {old cs : Array Value} {t : TypeId} (hb : F b = some (old, t)) : Cls St I w0 (F.put b (cs, t)) (w.setRow b cs) := by
  have hN := (h.laid b _ hb).1
  refine ⟨fun k hk => (heap_setRow_other _ _ _ _ (by have := hst k hk; omega)).trans (h.same k hk), hl.row _ _ _ hN h.inv, by rw [size_setRow]; exact h.size, fun c x hc => ?_⟩
  unfold Fl.put at hc
  by_cases hcb : c = b
  · rw [if_pos hcb] at hc
    cases hc
    subst hcb
    exact ⟨hN, (h.laid _ _ hb).2.setRow cs⟩
  · rw [if_neg hcb] at hc
    obtain ⟨h1, h2⟩ := h.laid c x hc
    exact ⟨h1, (heap_setRow_other _ _ _ _ hcb).trans h2⟩
theorem Cls.less {F : Fl} {w : World} {b : Nat} {x : Array Value × TypeId} (hb : F b = none) (h : Cls St I w0 (F.put b x) w) : Cls St I w0 F w :=
  ⟨h.same, h.inv, h.size, fun c y hc => h.laid c y (by
    unfold Fl.put
    by_cases hcb : c = b
    · rw [hcb, hb] at hc; cases hc
    · rw [if_neg hcb]; exact hc)⟩

theorem stepF_mono {o : Oper} {K K' : Act → Fl → Prop} (hk : ∀ a F, K a F → K' a F) {a : Act} {F : Fl} (h : stepF P St I w0 ops o K a F) : stepF P St I w0 ops o K' a F := by
  unfold stepF at *
  split
  · rename_i hw
    rw [if_pos hw] at h
    split <;> rename_i hf <;> rw [hf] at h <;> simp only at h
    · intro hok; obtain ⟨v, h1, h2⟩ := h hok; exact ⟨v, h1, hk _ _ h2⟩
    · exact fun w hw => Oper.wp_mono (fun a w h => ⟨h.1, h.2.1, hk _ _ h.2.2⟩) (h w hw)
    · obtain ⟨z, t, h1, h2⟩ := h; exact ⟨z, t, h1, fun b hb hn hx => hk _ _ (h2 b hb hn hx)⟩
    · obtain ⟨b, old, cs, t, h1, h2, h3⟩ := h; exact ⟨b, old, cs, t, h1, h2, hk _ _ h3⟩
  · rename_i hw; rw [if_neg hw] at h; exact hk _ _ h

/-- The operation, at the frame a, puts v and does no more. -/
def PutsF (P : Program) (St : Nat → Prop) (w0 : World) (ops : Array Oper) (o : Oper) (v : Value) (a : Act) : Prop :=
  (Region.wanted o (yielded ops a.tmps) = true ∧ fkOp o.op = .pure ∧ YieldsS P (SW.of St w0) o v a) ∨ (Region.wanted o (yielded ops a.tmps) = false ∧ v = undef)
theorem PutsF.step {o : Oper} {v : Value} {a : Act} (h : PutsF P St w0 ops o v a) {K : Act → Fl → Prop} {F : Fl} (hK : K (a.put o.dst v) F) : stepF P St I w0 ops o K a F := by
  unfold stepF
  rcases h with ⟨h1, h2, h3⟩ | ⟨h1, rfl⟩
  · rw [if_pos h1, h2]; exact fun _ => ⟨v, h3, hK⟩
  · rw [if_neg (by rw [h1]; simp)]; exact hK
theorem PutsF.move {o : Oper} (hs : ∀ cs b, o.op ≠ .select cs b) {v : Value} {a a' : Act} (hp : PutsF P St w0 ops o v a) {d : Option Tmp} {u : Value} (ht : a'.tmps = (a.put d u).tmps) (h : ∀ t, d = some t → t ∉ o.looksAt ops) : PutsF P St w0 ops o v a' := by
  unfold PutsF at *
  have hw : Region.wanted o (yielded ops a'.tmps) = Region.wanted o (yielded ops a.tmps) := by rw [ht]; exact wanted_put o a d u h
  rw [hw]
  rcases hp with ⟨h1, h2, h3⟩ | h1
  · exact .inl ⟨h1, h2, h3.of_same (exec_tmps hs ht h)⟩
  · exact .inr h1

/-- What comes of an operation's step: it puts something; or it is a call, a new block, a store. -/
theorem stepF_cases {o : Oper} (hok : okOp P o = true) {K : Act → Fl → Prop} {a : Act} {F : Fl} (h : stepF P St I w0 ops o K a F) :
    (∃ v, PutsF P St w0 ops o v a ∧ K (a.put o.dst v) F) ∨ (Region.wanted o (yielded ops a.tmps) = true ∧ fkOp o.op ≠ .pure) := by
  unfold stepF at h
  by_cases hw : Region.wanted o (yielded ops a.tmps) = true
  · rw [if_pos hw] at h
    cases hf : fkOp o.op with
    | pure =>
      rw [hf] at h
      obtain ⟨v, h1, h2⟩ := h hok
      exact .inl ⟨v, .inl ⟨hw, hf, h1⟩, h2⟩
    | _ => exact .inr ⟨hw, by simp⟩
  · rw [if_neg hw] at h
    exact .inl ⟨undef, .inr ⟨by simpa using hw, rfl⟩, h⟩

/-- A slot that the operation does not look at may be filled before or behind it. -/
theorem stepF_put {o : Oper} (hs : ∀ cs b, o.op ≠ .select cs b) {d : Option Tmp} (h1 : ∀ t, d = some t → t ∉ o.looksAt ops) (h2 : ∀ t, d = some t → o.dst ≠ some t) (v : Value) {a : Act} {F : Fl} {K : Act → Fl → Prop} :
    stepF P St I w0 ops o K (a.put d v) F ↔ stepF P St I w0 ops o (fun a' F' => K (a'.put d v) F') a F := by
  have he := execOp_put (ops := ops) o hs a d v h1
  have hy : ∀ u, YieldsS P (SW.of St w0) o u (a.put d v) ↔ YieldsS P (SW.of St w0) o u a := fun u =>
    ⟨fun h => h.of_same he.symm, fun h => h.of_same he⟩
  unfold stepF
  rw [wanted_put o a d v h1]
  split
  · split
    · constructor
      · intro h hok; obtain ⟨u, hu, hk⟩ := h hok; exact ⟨u, (hy u).1 hu, by rw [Act.put_comm a v u h2] at hk; exact hk⟩
      · intro h hok; obtain ⟨u, hu, hk⟩ := h hok; exact ⟨u, (hy u).2 hu, by rw [Act.put_comm a v u h2]; exact hk⟩
    · constructor
      · intro h w hw; exact (wp_put hs h1 h2 v).1 (h w hw)
      · intro h w hw; exact (wp_put hs h1 h2 v).2 (h w hw)
    · rw [he]
      constructor
      · rintro ⟨z, t, hr, hk⟩; exact ⟨z, t, hr, fun b hb hn hx => by have := hk b hb hn hx; rw [Act.put_comm a v _ h2] at this; exact this⟩
      · rintro ⟨z, t, hr, hk⟩; exact ⟨z, t, hr, fun b hb hn hx => by rw [Act.put_comm a v _ h2]; exact hk b hb hn hx⟩
    · rw [he]
      constructor
      · rintro ⟨b, old, cs, t, hb, hr, hk⟩; exact ⟨b, old, cs, t, hb, hr, by rw [Act.put_comm a v _ h2] at hk; exact hk⟩
      · rintro ⟨b, old, cs, t, hb, hr, hk⟩; exact ⟨b, old, cs, t, hb, hr, by rw [Act.put_comm a v _ h2]; exact hk⟩
  · rw [Act.put_comm a v undef h2]

theorem stepF_info {o : Oper} {K : Act → Fl → Prop} {a : Act} {F : Fl} (h : stepF P St I w0 ops o K a F) :
    stepF P St I w0 ops o (fun a' F' => (∃ u, a'.tmps = (a.put o.dst u).tmps) ∧ K a' F') a F := by
  unfold stepF at *
  split
  · rename_i hw
    rw [if_pos hw] at h
    split <;> rename_i hf <;> rw [hf] at h <;> simp only at h
    · intro hok; obtain ⟨v, h1, h2⟩ := h hok; exact ⟨v, h1, ⟨v, rfl⟩, h2⟩
    · exact fun w hw => Oper.wp_mono (fun a w h => ⟨h.2.1, h.2.2.1, h.1, h.2.2.2⟩) (wp_info (h w hw))
    · obtain ⟨z, t, h1, h2⟩ := h; exact ⟨z, t, h1, fun b hb hn hx => ⟨⟨_, rfl⟩, h2 b hb hn hx⟩⟩
    · obtain ⟨b, old, cs, t, h1, h2, h3⟩ := h; exact ⟨b, old, cs, t, h1, h2, ⟨_, rfl⟩, h3⟩
  · rename_i hw; rw [if_neg hw] at h; exact ⟨⟨undef, rfl⟩, h⟩

/-- Some way through an operation that is not pure. -/
theorem stepF_wit {o : Oper} {K : Act → Fl → Prop} {a : Act} {F : Fl} (hw : Region.wanted o (yielded ops a.tmps) = true) (hnp : fkOp o.op ≠ .pure) {w1 : World} (hl : Lasting w0.heap.size I) (hst : ∀ k, St k → k < w0.heap.size) (hc : Cls St I w0 F w1) (h : stepF P St I w0 ops o K a F) :
    ∃ a' F', (∃ u, a'.tmps = (a.put o.dst u).tmps) ∧ K a' F' := by
  have h := stepF_info h
  unfold stepF at h
  rw [if_pos hw] at h
  cases hf : fkOp o.op with
  | pure => exact absurd hf hnp
  | call => rw [hf] at h; obtain ⟨a', w', _, _, hh⟩ := wp_wit (h w1 hc); exact ⟨a', F, hh⟩
  | float =>
    rw [hf] at h
    obtain ⟨z, t, _, h2⟩ := h
    exact ⟨_, _, h2 w1.heap.size hc.size (by
      cases hF : F w1.heap.size with
      | none => rfl
      | some x => exact absurd (hc.laid _ _ hF).2.lt (by omega)) ⟨_, hc.alloc hl hst z t⟩⟩
  | store => rw [hf] at h; obtain ⟨b, old, cs, t, _, _, h3⟩ := h; exact ⟨_, _, h3⟩

def pairOk (x y : Op) : Bool := fkOp x == .pure || fkOp y == .pure || fkOp y == .float

theorem swapF {oi oj : Oper} (hsi : ∀ cs b, oi.op ≠ .select cs b) (hsj : ∀ cs b, oj.op ≠ .select cs b) (hoki : okOp P oi = true) (hokj : okOp P oj = true)
    (hap : oi.apart ops oj = true) (hpr : pairOk oi.op oj.op = true) {K : Act → Fl → Prop} {a : Act} {F : Fl} {w1 : World} (hl : Lasting w0.heap.size I) (hst : ∀ k, St k → k < w0.heap.size) (hc : Cls St I w0 F w1)
    (h : stepF P St I w0 ops oi (stepF P St I w0 ops oj K) a F) : stepF P St I w0 ops oj (stepF P St I w0 ops oi K) a F := by
  obtain ⟨a1, a2, a3⟩ := Oper.apart_spec hap
  have a2' : ∀ t, oj.dst = some t → oi.dst ≠ some t := fun t ht hh => a2 t hh ht
  rcases stepF_cases hoki h with ⟨v, hv, hk⟩ | ⟨hwi, hnpi⟩
  · refine stepF_mono (fun a' F' hh => ?_) (stepF_info ((stepF_put hsj a1 a2 v).1 hk))
    obtain ⟨⟨u, hu⟩, hk'⟩ := hh
    exact (hv.move hsi hu a3).step hk'
  · have h0 := stepF_info h
    have hput : ∀ v, (∀ a' F', (∃ u, a'.tmps = (a.put oi.dst u).tmps) ∧ stepF P St I w0 ops oj K a' F' → K (a'.put oj.dst v) F') → stepF P St I w0 ops oi K (a.put oj.dst v) F := fun v hv =>
      (stepF_put hsi (d := oj.dst) a3 a2' v).2 (stepF_mono hv h0)
    by_cases hwj : Region.wanted oj (yielded ops a.tmps) = true
    · have hwj' : ∀ a' : Act, (∃ u, a'.tmps = (a.put oi.dst u).tmps) → Region.wanted oj (yielded ops a'.tmps) = true := by
        rintro a' ⟨u, hu⟩; rw [hu, wanted_put oj a oi.dst u a1]; exact hwj
      have hej : ∀ a' : Act, (∃ u, a'.tmps = (a.put oi.dst u).tmps) → execOp a'.eval oj = execOp a.eval oj := by
        rintro a' ⟨u, hu⟩; exact exec_tmps hsj hu a1
      cases hfj : fkOp oj.op with
      | pure =>
        have hin : ∀ (a' : Act) (F' : Fl), (∃ u, a'.tmps = (a.put oi.dst u).tmps) ∧ stepF P St I w0 ops oj K a' F' → ∃ v, YieldsS P (SW.of St w0) oj v a ∧ K (a'.put oj.dst v) F' := by
          rintro a' F' ⟨hu, hk⟩
          unfold stepF at hk
          rw [if_pos (hwj' a' hu), hfj] at hk
          obtain ⟨v, h1, h2⟩ := hk hokj
          exact ⟨v, h1.of_same (hej a' hu).symm, h2⟩
        obtain ⟨a', F', hu, hh⟩ := stepF_wit hwi hnpi hl hst hc h0
        obtain ⟨v, hv, _⟩ := hin a' F' hh
        refine PutsF.step (.inl ⟨hwj, hfj, hv⟩) (hput v fun a' F' hh => ?_)
        obtain ⟨v', hv', hk⟩ := hin a' F' hh
        rw [hv.uniq hv']
        exact hk
      | call => exfalso; simp [pairOk, hfj, hnpi] at hpr
      | store => exfalso; simp [pairOk, hfj, hnpi] at hpr
      | float =>
        have hin : ∀ (a' : Act) (F' : Fl), (∃ u, a'.tmps = (a.put oi.dst u).tmps) ∧ stepF P St I w0 ops oj K a' F' → ∃ z t, (∀ w, (execOp a.eval oj).run P w = .ok (.value (.pointer (some ⟨w.heap.size, 0, none⟩))) (w.alloc (.cells z t))) ∧
            ∀ b, w0.heap.size ≤ b → F' b = none → (∃ w, Cls St I w0 (F'.put b (z, t)) w) → K (a'.put oj.dst (.pointer (some ⟨b, 0, none⟩))) (F'.put b (z, t)) := by
          rintro a' F' ⟨hu, hk⟩
          unfold stepF at hk
          rw [if_pos (hwj' a' hu), hfj] at hk
          obtain ⟨z, t, h1, h2⟩ := hk
          exact ⟨z, t, fun w => by rw [← hej a' hu]; exact h1 w, h2⟩
        obtain ⟨a', F', hu, hh⟩ := stepF_wit hwi hnpi hl hst hc h0
        obtain ⟨z, t, hz, _⟩ := hin a' F' hh
        have huniq : ∀ z' t', (∀ w, (execOp a.eval oj).run P w = .ok (.value (.pointer (some ⟨w.heap.size, 0, none⟩))) (w.alloc (.cells z' t'))) → z' = z ∧ t' = t := fun z' t' hz' => by
          have := hz' w1
          rw [hz w1] at this
          simp only [Result.ok.injEq, World.alloc, World.mk.injEq, Array.push_eq_push] at this
          simpa using this.2.1.1.symm
        unfold stepF
        rw [if_pos hwj, hfj]
        refine ⟨z, t, hz, fun b hb hn hx => ?_⟩
        refine (stepF_put hsi (d := oj.dst) a3 a2' _).2 ?_
        -- i, with block b laid already
        unfold stepF at h0 ⊢
        rw [if_pos hwi] at h0 ⊢
        cases hfi : fkOp oi.op with
        | pure => exact absurd hfi hnpi
        | call =>
          rw [hfi] at h0
          intro w hw
          have hbl := hw.laid b (z, t) (by unfold Fl.put; simp)
          refine Oper.wp_mono (fun a' w' hh => ?_) (h0 w (hw.less hn))
          obtain ⟨hC, hkeep, hh⟩ := hh
          obtain ⟨z', t', hz', hk⟩ := hin a' F hh
          obtain ⟨rfl, rfl⟩ := huniq z' t' hz'
          have hC' : Cls St I w0 (F.put b (z', t')) w' := by
            refine ⟨hC.same, hC.inv, hC.size, fun c x hx => ?_⟩
            unfold Fl.put at hx
            by_cases hcb : c = b
            · rw [if_pos hcb] at hx
              cases hx
              subst hcb
              exact ⟨hb, (hkeep c hb hbl.2.lt).trans hbl.2⟩
            · rw [if_neg hcb] at hx
              exact hC.laid c x hx
          exact ⟨hC', hkeep, hk b hb hn hx⟩
        | float =>
          rw [hfi] at h0
          obtain ⟨zi, ti, hri, hki⟩ := h0
          refine ⟨zi, ti, hri, fun bi hbi hni hxi => ?_⟩
          have hne : bi ≠ b := fun e => by unfold Fl.put at hni; rw [e] at hni; simp at hni
          have hni' : F bi = none := by unfold Fl.put at hni; rwa [if_neg hne] at hni
          obtain ⟨w2, hw2⟩ := hxi
          rw [Fl.put_comm F (Ne.symm hne)] at hw2 ⊢
          have hnb : (F.put bi (zi, ti)) b = none := by unfold Fl.put; rw [if_neg (Ne.symm hne)]; exact hn
          obtain ⟨z', t', hz', hk⟩ := hin _ _ (hki bi hbi hni' ⟨w2, hw2.less hnb⟩)
          obtain ⟨rfl, rfl⟩ := huniq z' t' hz'
          exact hk b hb hnb ⟨w2, hw2⟩
        | store =>
          rw [hfi] at h0
          obtain ⟨bi, old, cs, ti, hbi, hri, hki⟩ := h0
          have hne : bi ≠ b := fun e => by rw [e, hn] at hbi; cases hbi
          refine ⟨bi, old, cs, ti, by unfold Fl.put; rw [if_neg hne]; exact hbi, fun w hw => hri w (hw.less hn), ?_⟩
          obtain ⟨z', t', hz', hk⟩ := hin _ _ hki
          obtain ⟨rfl, rfl⟩ := huniq z' t' hz'
          obtain ⟨w2, hw2⟩ := hx
          have hrow := hw2.setRow hl hst (b := bi) (old := old) (cs := cs) (t := ti) (by unfold Fl.put; rw [if_neg hne]; exact hbi)
          rw [Fl.put_comm F (Ne.symm hne)] at hrow ⊢
          exact hk b hb (by unfold Fl.put; rw [if_neg (Ne.symm hne)]; exact hn) ⟨_, hrow⟩
    · refine PutsF.step (.inr ⟨by simpa using hwj, rfl⟩) (hput undef fun a' F' hh => ?_)
      obtain ⟨⟨u, hu⟩, hk⟩ := hh
      unfold stepF at hk
      rw [hu, wanted_put oj a oi.dst u a1, if_neg hwj] at hk
      exact hk

theorem frontF {Q : Act → Fl → Prop} {oj : Oper} (hsj : ∀ cs b, oj.op ≠ .select cs b) (hokj : okOp P oj = true) (l2 : List Oper) :
    ∀ (l1 : List Oper), (∀ oi ∈ l1, (∀ cs b, oi.op ≠ .select cs b) ∧ okOp P oi = true ∧ oi.apart ops oj = true ∧ pairOk oi.op oj.op = true) → ∀ (a : Act) (F : Fl) (w1 : World), Lasting w0.heap.size I → (∀ k, St k → k < w0.heap.size) → Cls St I w0 F w1 →
      wpF P St I w0 ops Q (l1 ++ oj :: l2) a F → stepF P St I w0 ops oj (wpF P St I w0 ops Q (l1 ++ l2)) a F := by
  intro l1
  induction l1 with
  | nil => intro _ a F w1 _ _ _ h; exact h
  | cons oi l1 ih =>
    intro hall a F w1 hl hst hc h
    obtain ⟨hsi, hoki, hap, hpr⟩ := hall oi (by simp)
    -- the rest of the list is walked in worlds that come of w1: which ones there are is read off the step itself
    have hrest : stepF P St I w0 ops oi (fun a' F' => (∃ w2, Cls St I w0 F' w2) → stepF P St I w0 ops oj (wpF P St I w0 ops Q (l1 ++ l2)) a' F') a F :=
      stepF_mono (fun a' F' hh hne => by obtain ⟨w2, h2⟩ := hne; exact ih (fun k hk => hall k (by simp [hk])) a' F' w2 hl hst h2 hh) h
    have hgo : stepF P St I w0 ops oi (stepF P St I w0 ops oj (wpF P St I w0 ops Q (l1 ++ l2))) a F := by
      unfold stepF at hrest
      rw [show stepF P St I w0 ops oi (stepF P St I w0 ops oj (wpF P St I w0 ops Q (l1 ++ l2))) a F = _ from by rw [stepF]]
      split
      · rename_i hw
        rw [if_pos hw] at hrest
        split <;> rename_i hf <;> rw [hf] at hrest <;> simp only at hrest
        · intro hok; obtain ⟨v, h1, h2⟩ := hrest hok; exact ⟨v, h1, h2 ⟨w1, hc⟩⟩
        · exact fun w hw => Oper.wp_mono (fun a w h => ⟨h.1, h.2.1, h.2.2 ⟨w1, hc⟩⟩) (hrest w hw)
        · obtain ⟨z, t, h1, h2⟩ := hrest
          exact ⟨z, t, h1, fun b hb hn hx => h2 b hb hn hx hx⟩
        · obtain ⟨b, old, cs, t, h1, h2, h3⟩ := hrest
          exact ⟨b, old, cs, t, h1, h2, h3 ⟨_, hc.setRow hl hst h1⟩⟩
      · rename_i hw; rw [if_neg hw] at hrest; exact hrest ⟨w1, hc⟩
    exact swapF hsi hsj hoki hokj hap hpr hl hst hc hgo

theorem stepF_op {Q' : Exit → Act → World → Prop} {j : Nat} {oj : Oper} (hj : ops[j]? = some oj) (hokj : okOp P oj = true) {K : Act → Fl → Prop} {a : Act} {F : Fl} {w : World} (hl : Lasting w0.heap.size I) (hst : ∀ k, St k → k < w0.heap.size) (hc : Cls St I w0 F w) (h : stepF P St I w0 ops oj K a F) :
    wpOp P ops Q' j (fun a' w' => ∃ F', Cls St I w0 F' w' ∧ K a' F') a w := by
  unfold stepF at h
  unfold wpOp
  rw [hj]
  simp only
  split
  · rename_i hw
    rw [if_pos hw] at h
    refine .inl ?_
    cases hf : fkOp oj.op with
    | pure =>
      rw [hf] at h
      obtain ⟨v, h1, h2⟩ := h hokj
      simp only [Oper.wp, h1 w hc.same, Oper.upon]
      exact ⟨F, hc, h2⟩
    | call =>
      rw [hf] at h
      exact wp_false (Oper.wp_mono (fun a' w' hh => ⟨F, hh.1, hh.2.2⟩) (h w hc))
    | float =>
      rw [hf] at h
      obtain ⟨z, t, h1, h2⟩ := h
      simp only [Oper.wp, h1 w, Oper.upon]
      have hc' := hc.alloc hl hst z t
      exact ⟨_, hc', h2 w.heap.size hc.size (by
        cases hF : F w.heap.size with
        | none => rfl
        | some x => exact absurd (hc.laid _ _ hF).2.lt (by omega)) ⟨_, hc'⟩⟩
    | store =>
      rw [hf] at h
      obtain ⟨b, old, cs, t, h1, h2, h3⟩ := h
      simp only [Oper.wp, h2 w hc, Oper.upon]
      exact ⟨_, hc.setRow hl hst h1, h3⟩
  · rename_i hw; rw [if_neg hw] at h; exact ⟨F, hc, h⟩

def orderB (ops : Array Oper) (cert : Array Nat) : List Nat → Bool
  | [] => true
  | x :: l => (match ops[x]? with
      | none => false
      | some ox => (ox.after.all fun e => !Region.binds .any e || !l.contains e.on) && l.all fun y => match ops[y]? with
        | none => false
        | some oy => (decide (x < y) && (cert.getD y 0).testBit x) || (ox.apart ops oy && pairOk ox.op oy.op)) && orderB ops cert l
def backB (ops : Array Oper) (cert : Array Nat) : Bool := (List.range ops.size).all fun j => match ops[j]? with
  | none => true
  | some oj => (oj.after.all fun e => !Region.binds .any e || decide (e.on < j)) && (List.range j).all fun i =>
      !(cert.getD j 0).testBit i || oj.after.any (fun e => Region.binds .any e && (e.on == i || (decide (i < e.on) && (cert.getD e.on 0).testBit i)))

theorem back_at {cert : Array Nat} (hc : backB ops cert = true) {j : Nat} {oj : Oper} (hj : ops[j]? = some oj) :
    (∀ e ∈ oj.after, Region.binds .any e = true → e.on < j) ∧ ∀ i, i < j → (cert.getD j 0).testBit i = true → ∃ e ∈ oj.after, Region.binds .any e = true ∧ (e.on = i ∨ (i < e.on ∧ (cert.getD e.on 0).testBit i = true)) := by
  have hlt : j < ops.size := (Array.getElem?_eq_some_iff.1 hj).1
  unfold backB at hc
  rw [List.all_eq_true] at hc
  have h := hc j (List.mem_range.2 hlt)
  rw [hj] at h
  simp only [Bool.and_eq_true] at h
  obtain ⟨h1, h2⟩ := h
  rw [List.all_eq_true] at h2
  refine ⟨fun e he hb => ?_, fun i hi hb => ?_⟩
  · have := Array.all_eq_true_iff_forall_mem.1 h1 e he
    simpa [hb] using this
  · have h3 := h2 i (List.mem_range.2 hi)
    rw [hb] at h3
    simp only [Bool.not_true, Bool.false_or] at h3
    obtain ⟨e, he, hx⟩ := Array.any_eq_true'.1 h3
    exact ⟨e, he, by simpa using hx⟩

theorem back_listed {cert : Array Nat} (hc : backB ops cert = true) {listed : Array Bool} (hcl : Closed ops listed) :
    ∀ (n j : Nat) (oj : Oper), j ≤ n → ops[j]? = some oj → (∀ e ∈ oj.after, Region.binds .any e = true → listed.getD e.on false = true) → ∀ i, i < j → (cert.getD j 0).testBit i = true → listed.getD i false = true := by
  intro n
  induction n with
  | zero => intro j oj hj _ _ i hi; omega
  | succ n ih =>
    intro j oj hjn hj hall i hi hb
    obtain ⟨hback, hcase⟩ := back_at hc hj
    obtain ⟨e, he, hbd, h⟩ := hcase i hi hb
    have hl := hall e he hbd
    rcases h with h | ⟨h1, h2⟩
    · rw [← h]; exact hl
    · have hej := hback e he hbd
      have hlt : j < ops.size := (Array.getElem?_eq_some_iff.1 hj).1
      have heo : ops[e.on]? = some (ops[e.on]'(by omega)) := Array.getElem?_eq_getElem (by omega)
      exact ih e.on _ (by omega) heo (hcl e.on _ heo hl) i h1 h2

theorem order_drop {cert : Array Nat} {j : Nat} (l2 : List Nat) : ∀ (l1 : List Nat), orderB ops cert (l1 ++ j :: l2) = true → orderB ops cert (l1 ++ l2) = true := by
  intro l1
  induction l1 with
  | nil => intro h; simp only [List.nil_append, orderB, Bool.and_eq_true] at h; exact h.2
  | cons x l1 ih =>
    intro h
    simp only [List.cons_append, orderB, Bool.and_eq_true] at h ⊢
    refine ⟨?_, ih h.2⟩
    cases hx : ops[x]? with
    | none => rw [hx] at h; simp at h
    | some ox =>
      rw [hx] at h
      simp only [Bool.and_eq_true] at h ⊢
      obtain ⟨⟨h1, h2⟩, _⟩ := h
      refine ⟨?_, ?_⟩
      · rw [Array.all_eq_true_iff_forall_mem] at h1 ⊢
        intro e he
        have := h1 e he
        simp only [Bool.or_eq_true, Bool.not_eq_true', List.contains_eq_mem, decide_eq_false_iff_not, List.mem_append, List.mem_cons] at this ⊢
        exact this.imp id fun this hh => this (by rcases hh with h | h; exact .inl h; exact .inr (.inr h))
      · rw [List.all_eq_true] at h2 ⊢
        intro y hy
        exact h2 y (by rcases List.mem_append.1 hy with h | h <;> simp [h])
theorem order_at {cert : Array Nat} {j : Nat} {oj : Oper} (hj : ops[j]? = some oj) (l2 : List Nat) : ∀ (l1 : List Nat), orderB ops cert (l1 ++ j :: l2) = true → ∀ x ∈ l1, ∃ ox, ops[x]? = some ox ∧ ((x < j ∧ (cert.getD j 0).testBit x = true) ∨ (ox.apart ops oj = true ∧ pairOk ox.op oj.op = true)) := by
  intro l1
  induction l1 with
  | nil => intro _ x hx; cases hx
  | cons y l1 ih =>
    intro h x hx
    simp only [List.cons_append, orderB, Bool.and_eq_true] at h
    rcases List.mem_cons.1 hx with hx | hx
    · subst hx
      cases hy : ops[x]? with
      | none => rw [hy] at h; simp at h
      | some ox =>
        rw [hy] at h
        simp only [Bool.and_eq_true] at h
        have := List.all_eq_true.1 h.1.2 j (by simp)
        rw [hj] at this
        simp only [Bool.or_eq_true, Bool.and_eq_true, decide_eq_true_eq] at this
        exact ⟨ox, rfl, this⟩
    · exact ih h.2 x hx

theorem float_sound {cert : Array Nat} (hback : backB ops cert = true) (hsel : Region.noSelect ops = true) (hok : ops.all (okOp P) = true) (hl : Lasting w0.heap.size I) (hst : ∀ k, St k → k < w0.heap.size) {Q : Act → Fl → Prop} {Q' : Exit → Act → World → Prop} (hQ : ∀ a w F, Cls St I w0 F w → Q a F → Q' .normal a w) :
    ∀ (fuel : Nat) (l : List Nat) (listed : Array Bool) (a : Act) (w : World) (F : Fl), l.length ≤ fuel → (∀ i, i ∈ l ↔ i < ops.size ∧ listed.getD i true = false) → l.Nodup → orderB ops cert l = true →
      Closed ops listed → listed.size = ops.size → Cls St I w0 F w → wpF P St I w0 ops Q (l.filterMap (ops[·]?)) a F → wpAny P .any ops Q' fuel listed a w := by
  intro fuel
  induction fuel with
  | zero =>
    intro l listed a w F hlen hmem _ _ _ _ hc h
    have hnil : l = [] := List.eq_nil_of_length_eq_zero (by omega)
    subst hnil
    refine ⟨?_, hQ _ _ _ hc h⟩
    refine List.eq_nil_iff_forall_not_mem.2 fun j hj => ?_
    obtain ⟨h0, o, ho, _⟩ := mem_ready.1 hj
    have := (hmem j).2 ⟨(Array.getElem?_eq_some_iff.1 ho).1, h0⟩
    cases this
  | succ fuel ih =>
    intro l listed a w F hlen hmem hnd hord hcl hsz hc h
    have hunl : ∀ i, i < ops.size → i ∉ l → listed.getD i false = true := fun i hi hn => by
      have h1 : ¬ listed.getD i true = false := fun hh => hn ((hmem i).2 ⟨hi, hh⟩)
      have hi' : i < listed.size := by omega
      simp [hi'] at h1 ⊢
      exact h1
    refine ⟨fun hr => ?_, fun j hj => ?_⟩
    · cases l with
      | nil => exact hQ _ _ _ hc h
      | cons i l =>
        exfalso
        obtain ⟨hi, hi0⟩ := (hmem i).1 (by simp)
        have hio : ops[i]? = some ops[i] := Array.getElem?_eq_getElem hi
        have hin : i ∈ Region.ready .any ops listed := mem_ready.2 ⟨hi0, _, hio, fun e he hb => by
          have hlt := (back_at hback hio).1 e he hb
          simp only [orderB, hio, Bool.and_eq_true] at hord
          have := (Array.all_eq_true_iff_forall_mem.1 hord.1.1) e he
          simp only [hb, Bool.not_true, Bool.false_or, Bool.not_eq_true', List.contains_eq_mem, decide_eq_false_iff_not] at this
          refine hunl e.on (by omega) fun hin => ?_
          rcases List.mem_cons.1 hin with h | h
          · omega
          · exact this h⟩
        rw [hr] at hin
        cases hin
    · obtain ⟨h0, oj, hoj, hall⟩ := mem_ready.1 hj
      have hjlt : j < ops.size := (Array.getElem?_eq_some_iff.1 hoj).1
      obtain ⟨l1, l2, rfl⟩ := List.append_of_mem ((hmem j).2 ⟨hjlt, h0⟩)
      have hsel' := Region.noSelect_spec hsel
      have hokj : okOp P oj = true := Array.all_eq_true_iff_forall_mem.1 hok oj (Array.mem_of_getElem? hoj)
      rw [List.filterMap_append, List.filterMap_cons_some hoj] at h
      have hfront := frontF (P := P) (St := St) (I := I) (w0 := w0) (hsel' j oj · · hoj) hokj _ _ (fun oi hoi => by
        obtain ⟨x, hx, hxo⟩ := List.mem_filterMap.1 hoi
        obtain ⟨ox, hox, hcase⟩ := order_at hoj l2 l1 hord x hx
        rw [hox] at hxo
        cases hxo
        refine ⟨fun cs b => hsel' x _ cs b hox, Array.all_eq_true_iff_forall_mem.1 hok _ (Array.mem_of_getElem? hox), ?_⟩
        rcases hcase with ⟨hlt, hb⟩ | hcase
        · exfalso
          have h1 := back_listed hback hcl j j oj (Nat.le_refl _) hoj hall x hlt hb
          have h2 := ((hmem x).1 (by simp [hx])).2
          have hi' : x < listed.size := by omega
          simp [hi'] at h1 h2
          rw [h1] at h2; cases h2
        · exact hcase) a F w hl hst hc h
      refine wpOp_mono (fun a' w' hh => ?_) (stepF_op hoj hokj hl hst hc hfront)
      obtain ⟨F', hc', hh⟩ := hh
      rw [← List.filterMap_append] at hh
      have hnd' := hnd
      rw [List.nodup_append] at hnd'
      have hj1 : j ∉ l1 := fun hin => hnd'.2.2 j hin j (by simp) rfl
      have hj2 : j ∉ l2 := (List.nodup_cons.1 hnd'.2.1).1
      refine ih (l1 ++ l2) _ a' w' F' (by simp at hlen ⊢; omega) (fun i => ?_) ?_ (order_drop l2 l1 hord) ?_ (by simpa using hsz) hc' hh
      · have hne : ∀ i, i ∈ l1 ++ l2 → i ≠ j := fun i hi e => by
          subst e
          rcases List.mem_append.1 hi with h | h
          · exact hj1 h
          · exact hj2 h
        constructor
        · intro hi
          obtain ⟨h1, h2⟩ := (hmem i).1 (by rcases List.mem_append.1 hi with h | h <;> simp [h])
          exact ⟨h1, by rw [getD_set_ne true (Ne.symm (hne i hi))]; exact h2⟩
        · rintro ⟨h1, h2⟩
          have hij : i ≠ j := fun e => by subst e; simp [show i < listed.size by omega] at h2
          rw [getD_set_ne true (Ne.symm hij)] at h2
          have := (hmem i).2 ⟨h1, h2⟩
          rcases List.mem_append.1 this with h | h
          · simp [h]
          · rcases List.mem_cons.1 h with h | h
            · exact absurd h hij
            · simp [h]
      · rw [List.nodup_append]
        exact ⟨hnd'.1, (List.nodup_cons.1 hnd'.2.1).2, fun x hx y hy => hnd'.2.2 x hx y (by simp [hy])⟩
      · intro k o hk hlk e he hb
        by_cases hkj : k = j
        · subst hkj
          rw [hoj] at hk
          cases hk
          exact getD_set_true (hall e he hb)
        · rw [getD_set_ne false (Ne.symm hkj)] at hlk
          exact getD_set_true (hcl k o hk hlk e he hb)

/-- The order that the walk takes: a list of all operations' numbers, in which each new block stands just ahead of the store into it. -/
def canonB (ops : Array Oper) (l : List Nat) : Bool := (List.range ops.size).all (fun i => l.contains i) && l.all (fun i => decide (i < ops.size)) && decide l.Nodup && decide (l.length ≤ ops.size) && orderB ops (Region.before ops) l && backB ops (Region.before ops)

theorem wp_region_f {id : Nat} {l : List Oper} {a : Act} {w : World} (hm : P.follows .mixedOrders = true) (canon : List Nat) (hcan : canonB l.toArray canon = true) (hsel : Region.noSelect l.toArray = true) (hok : l.toArray.all (okOp P) = true) (St : Nat → Prop) (I : World → Prop) (hst : ∀ k, St k → k < w.heap.size) (hl : Lasting w.heap.size I) (hI : I w.drew) {Q' : Exit → Act → World → Prop}
    (h : ∀ w0, w0 = w.drew → wpF P St I w0 l.toArray (fun a F => ∀ w, Cls St I w0 F w → Q' .normal a w) (canon.filterMap (l.toArray[·]?)) a fun _ => none) : (Code.region id l.toArray true).wp P Q' a w := by
  unfold canonB at hcan
  simp only [Bool.and_eq_true, List.all_eq_true, decide_eq_true_eq, List.contains_eq_mem] at hcan
  obtain ⟨⟨⟨⟨⟨h1, h2⟩, h3⟩, hlen⟩, h4⟩, h5⟩ := hcan
  refine wp_region_any hm (float_sound (w0 := w.drew) h5 hsel hok hl hst (fun a w F hc h => h w hc) _ canon _ a w.drew (fun _ => none) hlen (fun i => ?_) h3 h4 ?_ (by simp) ⟨Same.refl _ _, hI, Nat.le_refl _, fun b x hx => by cases hx⟩ (h w.drew rfl))
  · constructor
    · intro hi; have h := h2 i hi; refine ⟨h, ?_⟩; simp at h; simp [h]
    · exact fun hh => h1 i (List.mem_range.2 hh.1)
  · intro k o _ hk
    exfalso
    rcases Nat.lt_or_ge k l.toArray.size with hh | hh
    · simp at hh; simp [hh] at hk
    · simp at hh; simp [Nat.not_lt.2 hh] at hk
end

/-! ### The walk's steps -/
section
variable {P : Program} {ops : Array Oper} {St : Nat → Prop} {I : World → Prop} {w0 : World} {Q : Act → Fl → Prop} {o : Oper} {rest : List Oper} {a : Act} {F : Fl}
theorem wpF_nil (h : Q a F) : wpF P St I w0 ops Q [] a F := h
theorem wpF_skip (hw : Region.wanted o (yielded ops a.tmps) = false) (h : wpF P St I w0 ops Q rest (a.put o.dst undef) F) : wpF P St I w0 ops Q (o :: rest) a F := by
  unfold wpF stepF
  rw [if_neg (by rw [hw]; simp)]
  exact h
theorem wpF_steady (hw : Region.wanted o (yielded ops a.tmps) = true) (hp : fkOp o.op = .pure)
    (hs : okOp P o = true → ∀ x w1, (execOp a.eval o).run P w0 = .ok x w1 → w1 = w0 ∧ (∃ v, x = .value v) ∧ ∀ w', Same St w0 w' → (execOp a.eval o).run P w' = .ok x w')
    (h : ∀ K : Act → World → Prop, (∀ a w, wpF P St I w0 ops Q rest a F → K a w) → o.wp P a w0 K (fun _ _ _ => False)) : wpF P St I w0 ops Q (o :: rest) a F := by
  unfold wpF stepF
  rw [if_pos hw, hp]
  intro hok
  have h1 := h (fun a _ => wpF P St I w0 ops Q rest a F) (fun _ _ h => h)
  have h2 := hs hok
  unfold Oper.wp at h1
  cases hr : (execOp a.eval o).run P w0 with
  | halt x w1 =>
    rw [hr] at h1
    cases x <;> simp only [Oper.upon] at h1
  | ok x w1 =>
    obtain ⟨rfl, ⟨v, rfl⟩, h3⟩ := h2 x w1 hr
    rw [hr] at h1
    exact ⟨v, h3, h1⟩
theorem wpF_free (hw : Region.wanted o (yielded ops a.tmps) = true) (hp : fkOp o.op = .pure) (hf : freeAt a.eval o = true)
    (h : ∀ K : Act → World → Prop, (∀ a w, wpF P St I w0 ops Q rest a F → K a w) → o.wp P a w0 K (fun _ _ _ => False)) : wpF P St I w0 ops Q (o :: rest) a F :=
  wpF_steady hw hp (fun hok x w1 hr => by
    have hs := freeAt_steady hf hok
    obtain ⟨h1, h2, _⟩ := hs w0 w0 x w1 hr
    exact ⟨h1, h2, fun w' _ => (hs w0 w' x w1 hr).2.2⟩) h
theorem wpF_load (hw : Region.wanted o (yielded ops a.tmps) = true) {t : TypeId} {x : Operand} {p : Addr} (ho : o.op = .load t x) (hx : a.eval x = .pointer (some p)) (hS : St p.block) (hc : (w0.cell? p).isSome = true)
    (h : ∀ K : Act → World → Prop, (∀ a w, wpF P St I w0 ops Q rest a F → K a w) → o.wp P a w0 K (fun _ _ _ => False)) : wpF P St I w0 ops Q (o :: rest) a F :=
  wpF_steady hw (by rw [ho]; rfl) (fun _ y w1 hr => by
    have hrun : ∀ v : World, (execOp a.eval o).run P v = ((Instr.loadAt t (.pointer (some p))).run P v).andThen fun u w' => .ok (.value u) w' := fun v => by
      unfold execOp
      rw [ho]
      simp only [hx, Sem.run_bind, Sem.run_pure]
    rw [hrun] at hr
    cases hl : (Instr.loadAt t (.pointer (some p))).run P w0 with
    | halt z w2 => rw [hl] at hr; cases hr
    | ok u w2 =>
      rw [hl] at hr
      simp only [Result.andThen_ok, Result.ok.injEq] at hr
      obtain ⟨rfl, rfl⟩ := hr
      refine ⟨(load_steady (P := P) (w' := w0) rfl hc hl).1, ⟨u, rfl⟩, fun w' hw' => ?_⟩
      have := (load_steady (P := P) (w := w0) (w' := w') (hw' _ hS) hc hl).2
      rw [hrun, this]
      rfl) h
theorem wpF_call (hw : Region.wanted o (yielded ops a.tmps) = true) (hp : fkOp o.op = .call)
    (h : ∀ w, Cls St I w0 F w → ∀ K : Act → World → Prop, (∀ a w', (Cls St I w0 F w' ∧ (∀ k, w0.heap.size ≤ k → k < w.heap.size → w'.heap[k]? = w.heap[k]?) ∧ wpF P St I w0 ops Q rest a F) → K a w') → o.wp P a w K (fun _ _ _ => False)) : wpF P St I w0 ops Q (o :: rest) a F := by
  unfold wpF stepF
  rw [if_pos hw, hp]
  exact fun w hc => h w hc _ (fun _ _ h => h)
theorem wpF_float (hw : Region.wanted o (yielded ops a.tmps) = true) (hp : fkOp o.op = .float) (z : Array Value) (t : TypeId) (hr : ∀ w, (execOp a.eval o).run P w = .ok (.value (.pointer (some ⟨w.heap.size, 0, none⟩))) (w.alloc (.cells z t)))
    (h : ∀ b, w0.heap.size ≤ b → F b = none → ∀ K : Act → World → Prop, (∀ a w, wpF P St I w0 ops Q rest a (F.put b (z, t)) → K a w) → K (a.put o.dst (.pointer (some ⟨b, 0, none⟩))) w0) : wpF P St I w0 ops Q (o :: rest) a F := by
  unfold wpF stepF
  rw [if_pos hw, hp]
  exact ⟨z, t, hr, fun b hb hn _ => h b hb hn (fun a _ => wpF P St I w0 ops Q rest a (F.put b (z, t))) (fun _ _ h => h)⟩
theorem wpF_store (hw : Region.wanted o (yielded ops a.tmps) = true) {ty t : TypeId} {x y : Operand} (ho : o.op = .store ty x y) {b : Nat} {old cs : Array Value} {v : Value} (hx : a.eval x = .pointer (some ⟨b, 0, none⟩)) (hy : a.eval y = v)
    (hF : F b = some (old, t)) (hcs : v.cells = cs) (hi : (P.info? ty).map (·.size) = some cs.size) (hz : old.size = cs.size) (h1 : cs.toList.all (·.oneCell') = true)
    (h : ∀ K : Act → World → Prop, (∀ a w, wpF P St I w0 ops Q rest a (F.put b (cs, t)) → K a w) → K (a.put o.dst undef) w0) : wpF P St I w0 ops Q (o :: rest) a F := by
  unfold wpF stepF
  rw [if_pos hw, show fkOp o.op = .store from by rw [ho]; rfl]
  refine ⟨b, old, cs, t, hF, fun w hc => ?_, h (fun a _ => wpF P St I w0 ops Q rest a (F.put b (cs, t))) (fun _ _ h => h)⟩
  have hb := (hc.laid b _ hF).2
  unfold execOp
  rw [ho]
  simp only [hx, hy, Sem.run_bind, Sem.run_pure, Instr.storeAt, Instr.sureAddr, Result.andThen_ok]
  have := run_storeCells_from (P := P) b t cs.toList 0 old w hb (by simp; omega) (fun v hv => List.all_eq_true.1 h1 v hv)
  cases hq : P.info? ty with
  | none => simp [hq] at hi
  | some i =>
    have hs : cs.size = i.size := by simp [hq] at hi; omega
    simp only [storeVar, sizeOf, typeInfo, Sem.run_bind, run_program, hq, Result.andThen_ok, Sem.run_pure, hcs, hs, ne_eq, not_true, if_false]
    rw [this]
    rfl
theorem Cls.below {w w' : World} (h : Cls St I w0 F w) (hst : ∀ k, St k → k < w0.heap.size) (hb : Below w.heap.size w w') (hI : I w') : Cls St I w0 F w' :=
  ⟨fun k hk => (hb.block k (Nat.lt_of_lt_of_le (hst k hk) h.size)).trans (h.same k hk), hI, Nat.le_trans h.size hb.size, fun b x hx => ⟨(h.laid b x hx).1, (h.laid b x hx).2.below hb⟩⟩
end
/-- 'Nothing that was there has turned' lasts. -/
theorem lasting_below {N : Nat} {W : World} (hN : W.heap.size ≤ N) : Lasting N (fun w => Below W.heap.size W w) :=
  ⟨fun w o h => h.alloc h.size o, fun w b cs hb h => h.trans ⟨rfl, rfl, rfl, by rw [size_setRow]; exact Nat.le_refl _, fun k hk => heap_setRow_other _ _ _ _ (by omega)⟩⟩
end Go.Proofs.Ytfmcicmbehjdcaa
