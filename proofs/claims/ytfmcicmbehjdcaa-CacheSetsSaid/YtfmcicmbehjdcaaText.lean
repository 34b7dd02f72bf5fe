/- A region that draws its order, walked in the order of its text: which operations see no memory, and the theorem that one walk serves every order. -/
import Derived.Test.YtfmcicmbehjdcaaBase
import Derived.Orders
namespace Go.Proofs.Ytfmcicmbehjdcaa
set_option linter.unusedSimpArgs false
set_option linter.unusedVariables false
open Go.RowKit

/-- The run of m is the same in every world, and leaves it alone. -/
def Steady {α : Type} (P : Program) (m : Sem α) : Prop := ∀ w w' x w1, m.run P w = .ok x w1 → w1 = w ∧ m.run P w' = .ok x w'

section
variable {α β : Type} {P : Program}
theorem Steady.pure (a : α) : Steady P (Pure.pure a : Sem α) := by
  intro w w' x w1 h
  simp only [Sem.run_pure, Result.ok.injEq] at h ⊢
  exact ⟨h.2.symm, h.1, trivial⟩
theorem Steady.halt (h : Halt) : Steady P (Sem.halt h : Sem α) := by
  intro w w' x w1 e
  simp at e
theorem Steady.stuck (s : String) : Steady P (stuck s : Sem α) := Steady.halt _
theorem Steady.unsupported (s : Unsupported) : Steady P (unsupported s : Sem α) := Steady.halt _
theorem Steady.program : Steady P (program : Sem Program) := by
  intro w w' x w1 h
  simp only [run_program, Result.ok.injEq] at h ⊢
  exact ⟨h.2.symm, h.1, trivial⟩
theorem Steady.bind {m : Sem α} {f : α → Sem β} (h : Steady P m) (k : ∀ a, Steady P (f a)) : Steady P (m >>= f) := by
  intro w w' x w1 e
  rw [Sem.run_bind] at e ⊢
  cases hm : m.run P w with
  | halt x w2 => rw [hm] at e; cases e
  | ok a w2 =>
    rw [hm] at e
    obtain ⟨rfl, h2⟩ := h w w' a w2 hm
    rw [h2]
    exact k a w2 w' x w1 e
theorem Steady.never {m : Sem α} (h : ∀ w x w1, m.run P w ≠ .ok x w1) : Steady P m := fun w _ x w1 e => absurd e (h w x w1)
theorem Steady.never_bind {m : Sem α} {f : α → Sem β} (h : ∀ w x w1, m.run P w ≠ .ok x w1) : Steady P (m >>= f) := Steady.never fun w x w1 e => by
  rw [Sem.run_bind] at e
  cases hm : m.run P w with
  | halt y w2 => rw [hm] at e; cases e
  | ok a w2 => exact h _ _ _ hm
theorem Steady.error (t : String) : Steady P (runtimePanic (.error t) : Sem α) := Steady.never fun w x w1 => by simp [runtimePanic]
theorem Steady.nilDeref : Steady P (runtimePanic .nilDeref : Sem α) := Steady.never fun w x w1 => by simp [runtimePanic]
theorem Steady.boundsPanic (k : IntKind) (x y : Int) (c : BoundsCode) : Steady P (boundsPanic k x y c : Sem α) := Steady.never fun w a w1 e => by
  obtain ⟨s, w', h⟩ := run_boundsPanic (α := α) (P := P) (w := w) k x y c
  rw [h] at e
  cases e
theorem Steady.typeInfo (t : TypeId) : Steady P (typeInfo t) := by
  unfold Go.typeInfo
  refine Steady.bind Steady.program fun p => ?_
  split
  · exact Steady.pure _
  · exact Steady.stuck _
theorem Steady.underlying (t : TypeId) : Steady P (underlying t) := by
  unfold Go.underlying
  refine Steady.bind Steady.program fun p => ?_
  split
  · exact Steady.pure _
  · exact Steady.stuck _
theorem Steady.sizeOf (t : TypeId) : Steady P (sizeOf t) := Steady.bind (Steady.typeInfo t) fun _ => Steady.pure _
theorem Steady.isAgg (t : TypeId) : Steady P (isAgg t) := by
  unfold Go.isAgg
  refine Steady.bind (Steady.underlying t) fun d => ?_
  split <;> exact Steady.pure _
theorem Steady.zeroValue (t : TypeId) : Steady P (zeroValue t) := by
  unfold Go.zeroValue
  refine Steady.bind (Steady.typeInfo t) fun d => ?_
  split
  · exact Steady.pure _
  · exact Steady.unsupported _
theorem Steady.asIntOf (v : Value) : Steady P (asIntOf v) := by
  unfold Go.asIntOf
  split
  · exact Steady.pure _
  · exact Steady.unsupported _
  · exact Steady.stuck _
theorem Steady.asBool (v : Value) : Steady P (asBool v) := by
  unfold Go.asBool
  split
  · exact Steady.pure _
  · exact Steady.stuck _
theorem Steady.asAgg (v : Value) : Steady P (asAgg v) := by
  unfold Go.asAgg
  split
  · exact Steady.pure _
  · exact Steady.stuck _
theorem Steady.part (t : TypeId) (cs : Array Value) (off : Nat) : Steady P (part t cs off) := by
  unfold Go.part
  refine Steady.bind (Steady.isAgg t) fun b => ?_
  split
  · exact Steady.bind (Steady.sizeOf t) fun _ => Steady.pure _
  · split
    · exact Steady.pure _
    · exact Steady.stuck _
theorem Steady.sureAddr (v : Value) : Steady P (Instr.sureAddr v) := by
  unfold Instr.sureAddr
  split
  · exact Steady.pure _
  · exact Steady.stuck _
theorem Steady.field (t : TypeId) (x : Value) (n : Nat) : Steady P (Instr.field t x n) := by
  unfold Instr.field
  refine Steady.bind (Steady.underlying t) fun d => ?_
  split
  · split
    · exact Steady.bind (Steady.asAgg x) fun _ => Steady.part _ _ _
    · exact Steady.stuck _
  · exact Steady.stuck _
theorem Steady.extract (x : Value) (n : Nat) : Steady P (Instr.extract x n) := by
  unfold Instr.extract
  split
  · split
    · exact Steady.pure _
    · exact Steady.stuck _
  · exact Steady.stuck _
theorem Steady.indexAt (t : TypeId) (x i : Value) : Steady P (Instr.indexAt t x i) := by
  unfold Instr.indexAt
  refine Steady.bind (Steady.asIntOf i) fun ki => ?_
  refine Steady.bind (Steady.underlying t) fun d => ?_
  dsimp only
  split
  · refine Steady.bind (Steady.sureAddr _) fun a => ?_
    simp only [pure_bind]
    refine Steady.bind (Steady.underlying t) fun d2 => ?_
    repeat' split
    all_goals first | exact Steady.bind (Steady.sizeOf _) fun _ => Steady.pure _ | exact Steady.unsupported _ | exact Steady.boundsPanic _ _ _ _
  · simp only [pure_bind]
    refine Steady.bind (Steady.underlying t) fun d2 => ?_
    repeat' split
    all_goals first | exact Steady.bind (Steady.sizeOf _) fun _ => Steady.pure _ | exact Steady.unsupported _ | exact Steady.boundsPanic _ _ _ _
  · exact Steady.never_bind fun w x w1 => by simp
theorem Steady.index (t : TypeId) (x i : Value) : Steady P (Instr.index t x i) := by
  unfold Instr.index
  refine Steady.bind (Steady.asIntOf i) fun ki => ?_
  refine Steady.bind (Steady.underlying t) fun d => ?_
  split
  · split
    · exact Steady.bind (Steady.sizeOf _) fun _ => Steady.part _ _ _
    · exact Steady.boundsPanic _ _ _ _
  · split
    · exact Steady.pure _
    · exact Steady.boundsPanic _ _ _ _
  · exact Steady.stuck _
theorem Steady.unary (op : UnOp) (x : Value) : Steady P (Op.unary op x) := by
  unfold Op.unary
  split <;> first | exact Steady.pure _ | exact Steady.stuck _ | exact Steady.unsupported _ | (unfold Op.intArith; split <;> first | exact Steady.pure _ | exact Steady.stuck _) | (unfold Op.intBits; split <;> first | exact Steady.pure _ | exact Steady.stuck _)
theorem Steady.convertInt (s d : TypeId) (k : IntKind) (n : Int) (hd : ∃ j, P.underlying d = some (.int j)) : Steady P (convert s d (.int k n)) := by
  obtain ⟨j, hd⟩ := hd
  unfold Go.convert
  refine Steady.bind (Steady.underlying s) fun a => ?_
  intro w w' x w1 h
  rw [Sem.run_bind, run_underlying hd] at h ⊢
  simp only [Result.andThen_ok] at h ⊢
  exact (show Steady P (Conv.intToInt j n) from Steady.pure _) w w' x w1 (by simpa using h)
theorem Steady.binInt (op : BinOp) (t : TypeId) (k j : IntKind) (a b : Int) : Steady P (binOp op t (.int k a) (.int j b)) := by
  have hsh : ∀ op, Steady P (Op.shift op k a j b) := fun op => by
    unfold Op.shift
    split
    · exact Steady.error _
    · dsimp only
      split <;> first | exact Steady.pure _ | exact Steady.stuck _
  have har : ∀ op, Steady P (Op.intArith op k a b) := fun op => by unfold Op.intArith; split <;> first | exact Steady.pure _ | exact Steady.stuck _
  have hdi : ∀ op, Steady P (Op.intDiv op k a b) := fun op => by
    unfold Op.intDiv; split
    · exact Steady.error _
    · split <;> first | exact Steady.pure _ | exact Steady.stuck _
  have hbi : ∀ op, Steady P (Op.intBits op k a b) := fun op => by unfold Op.intBits; split <;> first | exact Steady.pure _ | exact Steady.stuck _
  have hcm : ∀ op, Steady P (Op.intCmp op a b) := fun op => by unfold Op.intCmp; split <;> first | exact Steady.pure _ | exact Steady.stuck _
  cases op <;> simp only [binOp] <;> first | exact hsh _ | (split <;> first | exact Steady.stuck _ | exact har _ | exact hdi _ | exact hbi _ | exact hcm _)

/-- The field has cells of its own. -/
def fieldOk (P : Program) (s : TypeId) (f : Nat) : Bool :=
  match P.underlying s with
  | some (.struct fs) => match fs[f]? with
    | some fd => match P.info? fd.type with
      | some i => i.size != 0
      | none => true
    | none => true
  | _ => true
theorem Steady.fieldAt (s : TypeId) (x : Value) (f : Nat) (h : fieldOk P s f = true) : Steady P (Instr.fieldAt s x f) := by
  unfold Instr.fieldAt
  unfold fieldOk at h
  intro w w' y w1 e
  simp only [Sem.run_bind] at e ⊢
  cases hu : P.underlying s with
  | none => simp [Go.underlying, hu] at e
  | some d =>
    rw [hu] at h
    rw [run_underlying hu] at e ⊢
    simp only [Result.andThen_ok] at e ⊢
    cases d with
    | struct fs =>
      simp only at h e ⊢
      cases hf : fs[f]? with
      | none => rw [hf] at e; simp at e
      | some fd =>
        rw [hf] at h e
        simp only at h e ⊢
        have hp : ∀ a, Steady P (fieldPlace a fd) := fun a => by
          unfold fieldPlace
          intro v v' z v1 g
          rw [Sem.run_bind] at g ⊢
          cases hi : P.info? fd.type with
          | none => simp [Go.sizeOf, Go.typeInfo, hi] at g
          | some i =>
            rw [hi] at h
            have hz : i.size ≠ 0 := by simpa using h
            simp only [Go.sizeOf, Go.typeInfo, Sem.run_bind, run_program, hi, Result.andThen_ok, Sem.run_pure, hz, if_false, Result.ok.injEq] at g ⊢
            exact ⟨g.2.symm, g.1, trivial⟩
        exact (Steady.bind (Steady.sureAddr x) fun a => Steady.bind (hp a) fun b => Steady.pure _) w w' y w1 e
    | _ => simp at e
theorem Steady.mapM_go {γ δ : Type} (f : γ → Sem δ) (hf : ∀ x, Steady P (f x)) : ∀ (l : List γ), Steady P (l.mapM f) := by
  intro l
  induction l with
  | nil => exact Steady.pure _
  | cons x l ih => rw [List.mapM_cons]; exact Steady.bind (hf x) fun _ => Steady.bind ih fun _ => Steady.pure _
theorem Steady.build (t : TypeId) (parts : Array (Nat × Value)) : Steady P (Instr.build t parts) := by
  unfold Instr.build
  refine Steady.bind (Steady.zeroValue t) fun z => ?_
  refine Steady.bind (Steady.underlying t) fun d => ?_
  split
  · refine Steady.bind ?_ fun places => ?_
    · rw [Array.mapM_eq_mapM_toList]
      exact Steady.bind (Steady.mapM_go _ (fun f => Steady.bind (Steady.sizeOf _) fun _ => Steady.pure _) _) fun _ => Steady.pure _
    · split
      · exact Steady.pure _
      · exact Steady.stuck _
  · refine Steady.bind (Steady.sizeOf _) fun n => ?_
    split
    · exact Steady.pure _
    · exact Steady.stuck _
  · exact Steady.stuck _
theorem Steady.len (argTypes : Array TypeId) (ty : TypeId) (args : Array Value) (h : ∀ r, args[0]? ≠ some (.map r)) (h2 : ∀ r, args[0]? ≠ some (.chan r)) : Steady P (Builtin.len_ argTypes ty args) := by
  unfold Builtin.len_
  split
  · rename_i t x ht hx
    refine Steady.bind (Steady.underlying _) fun d => ?_
    split <;> first | exact Steady.pure _ | exact Steady.stuck _ | (exfalso; simp at hx; exact h _ hx.2) | (exfalso; simp at hx; exact h2 _ hx.2) | skip
    refine Steady.bind (Steady.underlying _) fun d => ?_
    split <;> first | exact Steady.pure _ | exact Steady.stuck _
  · exact Steady.stuck _
end

/-! ### One walk in the order of the text serves every order -/

/-- The blocks of St hold what they held in w0. -/
def Same (St : Nat → Prop) (w0 w : World) : Prop := ∀ k, St k → w.heap[k]? = w0.heap[k]?
theorem Same.refl (St : Nat → Prop) (w : World) : Same St w w := fun _ _ => rfl
/-- What stays true of memory while a region runs; it is so at the region's start. -/
structure SW where
  S : World → Prop
  w0 : World
  h0 : S w0
@[reducible] def SW.of (St : Nat → Prop) (w0 : World) : SW := ⟨Same St w0, w0, Same.refl _ _⟩

/-- Operations that may turn the world, or whose run is not the same at each place. -/
def effOp : Op → Bool
  | .move _ | .assign _ | .pick .. | .build .. | .load .. | .nilCheck _ | .binOp .. | .unOp .. | .convert .. | .slice .. | .fieldAddr .. | .field .. | .indexAddr .. | .index .. | .extract .. | .makeInterface .. | .lookup .. => false
  | .call { callee := .builtin .len, .. } => false
  | _ => true
def effAt (ops : Array Oper) (i : Nat) : Bool := ((ops[i]?).map fun o => effOp o.op).getD true

section
variable (P : Program) (ops : Array Oper) (σ : SW)
def YieldsS (o : Oper) (v : Value) (a : Act) : Prop := ∀ w, σ.S w → (execOp a.eval o).run P w = .ok (.value v) w
def stepT (i : Nat) (K : Act → World → Prop) (a : Act) (w : World) : Prop :=
  match ops[i]? with
  | none => K a w
  | some o => if Region.wanted o (yielded ops a.tmps) = true then
      (if effAt ops i = true then o.wp P a w (fun a' w' => σ.S w' ∧ K a' w') (fun _ _ _ => False) else ∃ v, YieldsS P σ o v a ∧ K (a.put o.dst v) w)
    else K (a.put o.dst undef) w
def wpT (Q : Act → World → Prop) : List Nat → Act → World → Prop
  | [], a, w => Q a w
  | i :: l, a, w => stepT P ops σ i (wpT Q l) a w
/-- Operation i, at the frame a, puts v and does no more. -/
def Puts (i : Nat) (o : Oper) (v : Value) (a : Act) : Prop :=
  (Region.wanted o (yielded ops a.tmps) = true ∧ effAt ops i = false ∧ YieldsS P σ o v a) ∨ (Region.wanted o (yielded ops a.tmps) = false ∧ v = undef)
end

section
variable {P : Program} {ops : Array Oper} {σ : SW}

theorem eval_tmps {a a' : Act} (h : a'.tmps = a.tmps) : a'.eval = a.eval := by
  funext x
  cases x <;> simp [Act.eval, h]

theorem wp_info {o : Oper} {a : Act} {w : World} {K : Act → World → Prop} {F : Exit → Act → World → Prop} (h : o.wp P a w K F) :
    o.wp P a w (fun a' w' => (∃ u, a'.tmps = (a.put o.dst u).tmps) ∧ K a' w') F := by
  unfold Oper.wp at *
  generalize (execOp a.eval o).run P w = r at *
  cases r with
  | ok n w' =>
    cases n <;> simp only [Oper.upon] at h ⊢
    case value v => exact ⟨⟨v, rfl⟩, h⟩
    case skip => exact ⟨⟨undef, rfl⟩, h⟩
    case defer d => exact ⟨⟨undef, by cases o.dst <;> rfl⟩, h⟩
    case enter f args =>
      refine Calls.mono h fun e w'' he => ?_
      cases e with
      | returned v => exact ⟨⟨v, rfl⟩, he⟩
      | panicked c => exact he
      | outgrown => exact he
    case row row args =>
      refine Rows.mono h fun v w'' he => ?_
      exact ⟨⟨v, rfl⟩, he⟩
  | halt x w' => cases x <;> simp only [Oper.upon] at h ⊢ <;> exact h

theorem wp_wit {o : Oper} {a : Act} {w : World} {K : Act → World → Prop} (h : o.wp P a w K fun _ _ _ => False) : ∃ a' w', K a' w' := by
  unfold Oper.wp at h
  generalize (execOp a.eval o).run P w = r at h
  cases r with
  | ok n w' =>
    cases n <;> simp only [Oper.upon] at h
    case value v => exact ⟨_, _, h⟩
    case skip => exact ⟨_, _, h⟩
    case defer d => exact ⟨_, _, h⟩
    case enter f args =>
      obtain ⟨e, w'', fr, hR, _⟩ := h []
      cases e with
      | returned v => exact ⟨_, _, hR⟩
      | panicked c => exact hR.elim
      | outgrown => obtain ⟨_, _, hf⟩ := hR; exact hf.elim
    case row row args =>
      obtain ⟨v, w'', hR, _⟩ := h default []
      exact ⟨_, _, hR⟩
  | halt x w' => cases x <;> simp only [Oper.upon] at h

theorem wp_false {o : Oper} {a : Act} {w : World} {K : Act → World → Prop} {Q : Exit → Act → World → Prop} (h : o.wp P a w K fun _ _ _ => False) : o.wp P a w K Q := by
  unfold Oper.wp at *
  generalize (execOp a.eval o).run P w = r at *
  cases r with
  | ok n w' =>
    cases n <;> simp only [Oper.upon] at h ⊢ <;> first
      | exact h
      | exact Calls.mono h (fun e w'' he => by
          cases e with
          | returned v => exact he
          | panicked c => exact he.elim
          | outgrown => obtain ⟨_, _, hf⟩ := he; exact hf.elim)
  | halt x w' => cases x <;> simp only [Oper.upon] at h ⊢

theorem wp_put {o : Oper} (hs : ∀ cs b, o.op ≠ .select cs b) {d : Option Tmp} (h1 : ∀ t, d = some t → t ∉ o.looksAt ops) (h2 : ∀ t, d = some t → o.dst ≠ some t) (v : Value) {a : Act} {w : World} {K : Act → World → Prop} :
    o.wp P (a.put d v) w K (fun _ _ _ => False) ↔ o.wp P a w (fun a' w' => K (a'.put d v) w') (fun _ _ _ => False) := by
  unfold Oper.wp
  rw [execOp_put (ops := ops) o hs a d v h1]
  generalize (execOp a.eval o).run P w = r
  cases r with
  | ok n w' =>
    cases n <;> simp only [Oper.upon]
    case value u => rw [Act.put_comm a v u h2]
    case skip => rw [Act.put_comm a v undef h2]
    case defer e => rw [Act.put_defers, Act.put_comm _ v undef h2]
    case enter f args =>
      constructor <;> intro h <;> refine Calls.mono h fun e w'' he => ?_
      · cases e with
        | returned u => simp only at he ⊢; rw [← Act.put_comm a v u h2]; exact he
        | panicked c => exact he
        | outgrown => exact he
      · cases e with
        | returned u => simp only at he ⊢; rw [Act.put_comm a v u h2]; exact he
        | panicked c => exact he
        | outgrown => exact he
    case row row args =>
      constructor <;> intro h <;> refine Rows.mono h fun u w'' he => ?_
      · rw [← Act.put_comm a v u h2]; exact he
      · rw [Act.put_comm a v u h2]; exact he
  | halt x w' => cases x <;> simp only [Oper.upon]

theorem YieldsS.of_same {o : Oper} {v : Value} {a a' : Act} (h : YieldsS P σ o v a) (e : execOp a'.eval o = execOp a.eval o) : YieldsS P σ o v a' := fun w hw => by rw [e]; exact h w hw
theorem YieldsS.uniq {o : Oper} {u v : Value} {a : Act} (h : YieldsS P σ o u a) (k : YieldsS P σ o v a) : u = v := by
  have h1 := h σ.w0 σ.h0
  rw [k σ.w0 σ.h0] at h1
  simp only [Result.ok.injEq, Next.value.injEq] at h1
  exact h1.1.symm

theorem stepT_mono {i : Nat} {K K' : Act → World → Prop} (hk : ∀ a w, K a w → K' a w) {a : Act} {w : World} (h : stepT P ops σ i K a w) : stepT P ops σ i K' a w := by
  unfold stepT at *
  split
  · rename_i ho; rw [ho] at h; exact hk _ _ h
  · rename_i o ho
    rw [ho] at h
    simp only at h
    split
    · rename_i hw
      rw [if_pos hw] at h
      split
      · rename_i he; rw [if_pos he] at h; exact Oper.wp_mono (fun a w h => ⟨h.1, hk _ _ h.2⟩) h
      · rename_i he; rw [if_neg he] at h; obtain ⟨v, h1, h2⟩ := h; exact ⟨v, h1, hk _ _ h2⟩
    · rename_i hw; rw [if_neg hw] at h; exact hk _ _ h

theorem Puts.step {i : Nat} {o : Oper} (hi : ops[i]? = some o) {v : Value} {a : Act} (h : Puts P ops σ i o v a) {K : Act → World → Prop} {w : World} (hK : K (a.put o.dst v) w) : stepT P ops σ i K a w := by
  unfold stepT
  rw [hi]
  simp only
  rcases h with ⟨h1, h2, h3⟩ | ⟨h1, rfl⟩
  · rw [if_pos h1, if_neg (by rw [h2]; simp)]; exact ⟨v, h3, hK⟩
  · rw [if_neg (by rw [h1]; simp)]; exact hK

theorem stepT_put {j : Nat} {oj : Oper} (hj : ops[j]? = some oj) (hs : ∀ cs b, oj.op ≠ .select cs b) {d : Option Tmp} (h1 : ∀ t, d = some t → t ∉ oj.looksAt ops) (h2 : ∀ t, d = some t → oj.dst ≠ some t) (v : Value) {a : Act} {w : World} {K : Act → World → Prop} :
    stepT P ops σ j K (a.put d v) w ↔ stepT P ops σ j (fun a' w' => K (a'.put d v) w') a w := by
  unfold stepT
  rw [hj]
  simp only
  rw [wanted_put oj a d v h1]
  have hy : ∀ u, YieldsS P σ oj u (a.put d v) ↔ YieldsS P σ oj u a := fun u =>
    ⟨fun h => h.of_same (execOp_put oj hs a d v h1).symm, fun h => h.of_same (execOp_put oj hs a d v h1)⟩
  split
  · split
    · exact wp_put hs h1 h2 v
    · constructor
      · rintro ⟨u, hu, hk⟩; exact ⟨u, (hy u).1 hu, by rw [← Act.put_comm a v u h2]; exact hk⟩
      · rintro ⟨u, hu, hk⟩; exact ⟨u, (hy u).2 hu, by rw [Act.put_comm a v u h2]; exact hk⟩
  · rw [Act.put_comm a v undef h2]

theorem stepT_info {j : Nat} {oj : Oper} (hj : ops[j]? = some oj) {K : Act → World → Prop} {a : Act} {w : World} (h : stepT P ops σ j K a w) :
    stepT P ops σ j (fun a' w' => (∃ u, a'.tmps = (a.put oj.dst u).tmps) ∧ K a' w') a w := by
  unfold stepT at *
  rw [hj] at h ⊢
  simp only at h ⊢
  split
  · rename_i hw
    rw [if_pos hw] at h
    split
    · rename_i he; rw [if_pos he] at h; exact Oper.wp_mono (fun a w h => ⟨h.2.1, h.1, h.2.2⟩) (wp_info h)
    · rename_i he; rw [if_neg he] at h; obtain ⟨v, h1, h2⟩ := h; exact ⟨v, h1, ⟨v, rfl⟩, h2⟩
  · rename_i hw; rw [if_neg hw] at h; exact ⟨⟨undef, rfl⟩, h⟩

theorem wanted_tmps {o : Oper} {a a' : Act} (h : a'.tmps = a.tmps) : Region.wanted o (yielded ops a'.tmps) = Region.wanted o (yielded ops a.tmps) := by rw [h]

theorem exec_tmps {o : Oper} (hs : ∀ cs b, o.op ≠ .select cs b) {a a' : Act} {d : Option Tmp} {u : Value} (ht : a'.tmps = (a.put d u).tmps) (h : ∀ t, d = some t → t ∉ o.looksAt ops) : execOp a'.eval o = execOp a.eval o := by
  rw [eval_tmps ht]; exact execOp_put o hs a d u h

theorem Puts.move {i : Nat} {o : Oper} (hs : ∀ cs b, o.op ≠ .select cs b) {v : Value} {a a' : Act} (hp : Puts P ops σ i o v a) {d : Option Tmp} {u : Value} (ht : a'.tmps = (a.put d u).tmps) (h : ∀ t, d = some t → t ∉ o.looksAt ops) : Puts P ops σ i o v a' := by
  unfold Puts at *
  have hw : Region.wanted o (yielded ops a'.tmps) = Region.wanted o (yielded ops a.tmps) := by rw [ht]; exact wanted_put o a d u h
  rw [hw]
  rcases hp with ⟨h1, h2, h3⟩ | h1
  · exact .inl ⟨h1, h2, h3.of_same (exec_tmps hs ht h)⟩
  · exact .inr h1

theorem swap {i j : Nat} {oi oj : Oper} (hi : ops[i]? = some oi) (hj : ops[j]? = some oj) (hsi : ∀ cs b, oi.op ≠ .select cs b) (hsj : ∀ cs b, oj.op ≠ .select cs b)
    (hap : oi.apart ops oj = true) (heff : ¬ (effAt ops i = true ∧ effAt ops j = true)) {K : Act → World → Prop} {a : Act} {w : World}
    (h : stepT P ops σ i (stepT P ops σ j K) a w) : stepT P ops σ j (stepT P ops σ i K) a w := by
  obtain ⟨a1, a2, a3⟩ := Oper.apart_spec hap
  by_cases hp : ∃ v, Puts P ops σ i oi v a ∧ stepT P ops σ j K (a.put oi.dst v) w
  · obtain ⟨v, hv, hk⟩ := hp
    have h2 := stepT_info hj ((stepT_put hj hsj a1 a2 v).1 hk)
    refine stepT_mono (fun a' w' hh => ?_) h2
    obtain ⟨⟨u, hu⟩, hk'⟩ := hh
    exact (hv.move hsi hu a3).step hi hk'
  · -- i turns the world
    have hw : Region.wanted oi (yielded ops a.tmps) = true ∧ effAt ops i = true := by
      unfold stepT at h
      rw [hi] at h
      simp only at h
      by_cases hwi : Region.wanted oi (yielded ops a.tmps) = true
      · rw [if_pos hwi] at h
        by_cases he : effAt ops i = true
        · exact ⟨hwi, he⟩
        · rw [if_neg he] at h
          obtain ⟨v, h1, h2⟩ := h
          exact absurd ⟨v, .inl ⟨hwi, by simpa using he, h1⟩, h2⟩ hp
      · rw [if_neg hwi] at h
        exact absurd ⟨undef, .inr ⟨by simpa using hwi, rfl⟩, h⟩ hp
    have hej : effAt ops j = false := by
      cases hh : effAt ops j with
      | false => rfl
      | true => exact absurd ⟨hw.2, hh⟩ heff
    have h0 := stepT_info hi h
    have hput : ∀ v, (∀ a' w', (∃ u, a'.tmps = (a.put oi.dst u).tmps) ∧ stepT P ops σ j K a' w' → K (a'.put oj.dst v) w') → stepT P ops σ i K (a.put oj.dst v) w := fun v hv =>
      (stepT_put hi hsi (d := oj.dst) a3 (fun t ht hh => a2 t hh ht) v).2 (stepT_mono hv h0)
    by_cases hwj : Region.wanted oj (yielded ops a.tmps) = true
    · -- the value that j yields
      have hin : ∀ a' w', (∃ u, a'.tmps = (a.put oi.dst u).tmps) ∧ stepT P ops σ j K a' w' → ∃ v, YieldsS P σ oj v a ∧ K (a'.put oj.dst v) w' := by
        rintro a' w' ⟨⟨u, hu⟩, hk⟩
        unfold stepT at hk
        rw [hj] at hk
        simp only at hk
        have hwj' : Region.wanted oj (yielded ops a'.tmps) = true := by rw [hu, wanted_put oj a oi.dst u a1]; exact hwj
        rw [if_pos hwj', if_neg (by rw [hej]; simp)] at hk
        obtain ⟨v, h1, h2⟩ := hk
        exact ⟨v, h1.of_same (exec_tmps hsj hu a1).symm, h2⟩
      have hwit : ∃ a' w', (∃ u, a'.tmps = (a.put oi.dst u).tmps) ∧ stepT P ops σ j K a' w' := by
        unfold stepT at h0
        rw [hi] at h0
        simp only at h0
        rw [if_pos hw.1, if_pos hw.2] at h0
        obtain ⟨a', w', _, hh⟩ := wp_wit h0
        exact ⟨a', w', hh⟩
      obtain ⟨a', w', hh⟩ := hwit
      obtain ⟨v, hv, _⟩ := hin a' w' hh
      refine Puts.step hj (.inl ⟨hwj, hej, hv⟩) (hput v fun a' w' hh => ?_)
      obtain ⟨v', hv', hk⟩ := hin a' w' hh
      rw [hv.uniq hv']
      exact hk
    · refine Puts.step hj (.inr ⟨by simpa using hwj, rfl⟩) (hput undef fun a' w' hh => ?_)
      obtain ⟨⟨u, hu⟩, hk⟩ := hh
      unfold stepT at hk
      rw [hj] at hk
      simp only at hk
      rw [hu, wanted_put oj a oi.dst u a1, if_neg hwj] at hk
      exact hk

theorem front {Q : Act → World → Prop} {j : Nat} {oj : Oper} (hj : ops[j]? = some oj) (hsel : ∀ (j : Nat) (o : Oper) cs b, ops[j]? = some o → o.op ≠ .select cs b) (l2 : List Nat) :
    ∀ (l1 : List Nat), (∀ i ∈ l1, ∃ oi, ops[i]? = some oi ∧ oi.apart ops oj = true ∧ ¬ (effAt ops i = true ∧ effAt ops j = true)) → ∀ (a : Act) (w : World),
      wpT P ops σ Q (l1 ++ j :: l2) a w → stepT P ops σ j (wpT P ops σ Q (l1 ++ l2)) a w := by
  intro l1
  induction l1 with
  | nil => intro _ a w h; exact h
  | cons i l1 ih =>
    intro hall a w h
    obtain ⟨oi, hi, hap, heff⟩ := hall i (by simp)
    have h1 : stepT P ops σ i (stepT P ops σ j (wpT P ops σ Q (l1 ++ l2))) a w :=
      stepT_mono (fun a' w' hh => ih (fun k hk => hall k (by simp [hk])) a' w' hh) h
    exact swap hi hj (fun cs b => hsel i oi cs b hi) (fun cs b => hsel j oj cs b hj) hap heff h1
end

def certOk (ops : Array Oper) (cert : Array Nat) : Bool := (List.range ops.size).all fun j => match ops[j]? with
  | none => true
  | some oj => (oj.after.all fun e => !Region.binds .any e || decide (e.on < j)) && (List.range j).all fun i =>
      if (cert.getD j 0).testBit i then oj.after.any (fun e => Region.binds .any e && (e.on == i || (decide (i < e.on) && (cert.getD e.on 0).testBit i)))
      else match ops[i]? with
        | none => true
        | some oi => oi.apart ops oj && !(effAt ops i && effAt ops j)

section
variable {P : Program} {ops : Array Oper} {σ : SW}

def Closed (ops : Array Oper) (listed : Array Bool) : Prop := ∀ (k : Nat) (o : Oper), ops[k]? = some o → listed.getD k false = true → ∀ e ∈ o.after, Region.binds .any e = true → listed.getD e.on false = true

theorem cert_at {cert : Array Nat} (hc : certOk ops cert = true) {j : Nat} {oj : Oper} (hj : ops[j]? = some oj) :
    (∀ e ∈ oj.after, Region.binds .any e = true → e.on < j) ∧ ∀ i, i < j → ((cert.getD j 0).testBit i = true ∧ ∃ e ∈ oj.after, Region.binds .any e = true ∧ (e.on = i ∨ (i < e.on ∧ (cert.getD e.on 0).testBit i = true))) ∨
      ((cert.getD j 0).testBit i = false ∧ ∀ oi, ops[i]? = some oi → oi.apart ops oj = true ∧ ¬ (effAt ops i = true ∧ effAt ops j = true)) := by
  have hlt : j < ops.size := (Array.getElem?_eq_some_iff.1 hj).1
  unfold certOk at hc
  rw [List.all_eq_true] at hc
  have h := hc j (List.mem_range.2 hlt)
  rw [hj] at h
  simp only [Bool.and_eq_true] at h
  obtain ⟨h1, h2⟩ := h
  rw [List.all_eq_true] at h2
  refine ⟨fun e he hb => ?_, fun i hi => ?_⟩
  · have := Array.all_eq_true_iff_forall_mem.1 h1 e he
    simpa [hb] using this
  · have h3 := h2 i (List.mem_range.2 hi)
    by_cases hb : (cert.getD j 0).testBit i = true
    · rw [if_pos hb] at h3
      refine .inl ⟨hb, ?_⟩
      obtain ⟨e, he, hx⟩ := Array.any_eq_true'.1 h3
      refine ⟨e, he, ?_⟩
      simpa using hx
    · rw [if_neg hb] at h3
      refine .inr ⟨by simpa using hb, fun oi hoi => ?_⟩
      rw [hoi] at h3
      simp only [Bool.and_eq_true, Bool.not_eq_true', Bool.and_eq_false_iff] at h3
      refine ⟨h3.1, fun hh => ?_⟩
      rcases h3.2 with h | h
      · rw [hh.1] at h; cases h
      · rw [hh.2] at h; cases h

theorem cert_listed {cert : Array Nat} (hc : certOk ops cert = true) {listed : Array Bool} (hcl : Closed ops listed) :
    ∀ (n j : Nat) (oj : Oper), j ≤ n → ops[j]? = some oj → (∀ e ∈ oj.after, Region.binds .any e = true → listed.getD e.on false = true) → ∀ i, i < j → (cert.getD j 0).testBit i = true → listed.getD i false = true := by
  intro n
  induction n with
  | zero => intro j oj hj _ _ i hi; omega
  | succ n ih =>
    intro j oj hjn hj hall i hi hb
    obtain ⟨hback, hcase⟩ := cert_at hc hj
    rcases hcase i hi with ⟨_, e, he, hbd, h⟩ | ⟨h, _⟩
    · have hl := hall e he hbd
      rcases h with h | ⟨h1, h2⟩
      · rw [← h]; exact hl
      · have hej := hback e he hbd
        have hlt : j < ops.size := (Array.getElem?_eq_some_iff.1 hj).1
        have heo : ops[e.on]? = some (ops[e.on]'(by omega)) := Array.getElem?_eq_getElem (by omega)
        exact ih e.on _ (by omega) heo (hcl e.on _ heo hl) i h1 h2
    · rw [h] at hb; cases hb

theorem stepT_op {Q' : Exit → Act → World → Prop} {j : Nat} {K : Act → World → Prop} {a : Act} {w : World} (hs : σ.S w) (h : stepT P ops σ j K a w) :
    wpOp P ops Q' j (fun a' w' => σ.S w' ∧ K a' w') a w := by
  unfold stepT at h
  unfold wpOp
  cases ho : ops[j]? with
  | none => rw [ho] at h; exact ⟨hs, h⟩
  | some o =>
    rw [ho] at h
    simp only at h ⊢
    split
    · rename_i hw
      rw [if_pos hw] at h
      refine .inl ?_
      by_cases he : effAt ops j = true
      · rw [if_pos he] at h; exact wp_false h
      · rw [if_neg he] at h
        obtain ⟨v, h1, h2⟩ := h
        simp only [Oper.wp, h1 w hs, Oper.upon]
        exact ⟨hs, h2⟩
    · rename_i hw; rw [if_neg hw] at h; exact ⟨hs, h⟩

theorem text_sound {cert : Array Nat} (hc : certOk ops cert = true) (hsel : Region.noSelect ops = true) {Q : Act → World → Prop} {Q' : Exit → Act → World → Prop} (hQ : ∀ a w, Q a w → Q' .normal a w) :
    ∀ (fuel : Nat) (l : List Nat) (listed : Array Bool) (a : Act) (w : World), l.length ≤ fuel → (∀ i, i ∈ l ↔ i < ops.size ∧ listed.getD i true = false) → l.Pairwise (· < ·) →
      Closed ops listed → listed.size = ops.size → σ.S w → wpT P ops σ Q l a w → wpAny P .any ops Q' fuel listed a w := by
  intro fuel
  induction fuel with
  | zero =>
    intro l listed a w hl hmem _ _ _ _ h
    have hnil : l = [] := List.eq_nil_of_length_eq_zero (by omega)
    subst hnil
    refine ⟨?_, hQ _ _ h⟩
    refine List.eq_nil_iff_forall_not_mem.2 fun j hj => ?_
    obtain ⟨h0, o, ho, _⟩ := mem_ready.1 hj
    have := (hmem j).2 ⟨(Array.getElem?_eq_some_iff.1 ho).1, h0⟩
    cases this
  | succ fuel ih =>
    intro l listed a w hl hmem hpw hcl hsz hs h
    have hunl : ∀ i, i < ops.size → i ∉ l → listed.getD i false = true := fun i hi hn => by
      have h1 : ¬ listed.getD i true = false := fun hh => hn ((hmem i).2 ⟨hi, hh⟩)
      have hi' : i < listed.size := by omega
      simp [hi'] at h1 ⊢
      exact h1
    refine ⟨fun hr => ?_, fun j hj => ?_⟩
    · cases l with
      | nil => exact hQ _ _ h
      | cons i l =>
        exfalso
        obtain ⟨hi, hi0⟩ := (hmem i).1 (by simp)
        have hio : ops[i]? = some ops[i] := Array.getElem?_eq_getElem hi
        have : i ∈ Region.ready .any ops listed := mem_ready.2 ⟨hi0, _, hio, fun e he hb => by
          have hlt := (cert_at hc hio).1 e he hb
          refine hunl e.on (by omega) fun hin => ?_
          rcases List.mem_cons.1 hin with h | h
          · omega
          · have := (List.pairwise_cons.1 hpw).1 _ h; omega⟩
        rw [hr] at this
        cases this
    · obtain ⟨h0, oj, hoj, hall⟩ := mem_ready.1 hj
      have hjlt : j < ops.size := (Array.getElem?_eq_some_iff.1 hoj).1
      obtain ⟨l1, l2, rfl⟩ := List.append_of_mem ((hmem j).2 ⟨hjlt, h0⟩)
      have hpw' := List.pairwise_append.1 hpw
      have hsel' := Region.noSelect_spec hsel
      have hfront := front (P := P) (σ := σ) hoj hsel' l2 l1 (fun i hi => by
        have hij : i < j := hpw'.2.2 i hi j (by simp)
        have hio : ops[i]? = some (ops[i]'(by omega)) := Array.getElem?_eq_getElem (by omega)
        rcases (cert_at hc hoj).2 i hij with ⟨hb, _⟩ | ⟨_, h⟩
        · exfalso
          have h1 := cert_listed hc hcl j j oj (Nat.le_refl _) hoj hall i hij hb
          have h2 := ((hmem i).1 (by simp [hi])).2
          have hi' : i < listed.size := by omega
          simp [hi'] at h1 h2
          rw [h1] at h2; cases h2
        · exact ⟨_, hio, h _ hio⟩) a w h
      refine wpOp_mono (fun a' w' hh => ?_) (stepT_op hs hfront)
      refine ih (l1 ++ l2) _ a' w' (by simp at hl ⊢; omega) (fun i => ?_) ?_ ?_ (by simpa using hsz) hh.1 hh.2
      · have hne : ∀ i, i ∈ l1 ++ l2 → i ≠ j := fun i hi e => by
          subst e
          rcases List.mem_append.1 hi with h | h
          · have := hpw'.2.2 i h i (by simp); omega
          · have := (List.pairwise_cons.1 hpw'.2.1).1 i h; omega
        constructor
        · intro hi
          obtain ⟨h1, h2⟩ := (hmem i).1 (by rcases List.mem_append.1 hi with h | h <;> simp [h])
          exact ⟨h1, by rw [getD_set_ne true (Ne.symm (hne i hi))]; exact h2⟩
        · rintro ⟨h1, h2⟩
          have hij : i ≠ j := fun e => by subst e; simp [show i < listed.size by omega] at h2
          rw [getD_set_ne true (Ne.symm hij)] at h2
          have := (hmem i).2 ⟨h1, h2⟩
          rcases List.mem_append.1 this with h | h
          · simp [h]
          · rcases List.mem_cons.1 h with h | h
            · exact absurd h hij
            · simp [h]
      · refine List.pairwise_append.2 ⟨hpw'.1, (List.pairwise_cons.1 hpw'.2.1).2, fun x hx y hy => hpw'.2.2 x hx y (by simp [hy])⟩
      · intro k o hk hlk e he hb
        by_cases hkj : k = j
        · subst hkj
          rw [hoj] at hk
          cases hk
          exact getD_set_true (hall e he hb)
        · rw [getD_set_ne false (Ne.symm hkj)] at hlk
          exact getD_set_true (hcl k o hk hlk e he hb)

theorem wp_region_text {id : Nat} {a : Act} {w : World} (hm : P.follows .mixedOrders = true) {cert : Array Nat} (hc : certOk ops cert = true) (hsel : Region.noSelect ops = true) (hσ : σ.S w.drew) {Q' : Exit → Act → World → Prop}
    (h : wpT P ops σ (fun a w => Q' .normal a w) (List.range ops.size) a w.drew) : (Code.region id ops true).wp P Q' a w := by
  refine wp_region_any hm (text_sound hc hsel (fun _ _ h => h) ops.size (List.range ops.size) _ a w.drew (by simp) (fun i => ?_) List.pairwise_lt_range ?_ (by simp) hσ h)
  · simp only [List.mem_range]
    constructor
    · intro hi; exact ⟨hi, by simp [hi]⟩
    · exact fun h => h.1
  · intro k o _ hk
    exfalso
    rcases Nat.lt_or_ge k ops.size with h | h
    · simp [h] at hk
    · simp [Nat.not_lt.2 h] at hk
end

/-! ### The walk's own form -/

/-- A field's address that is reckoned without looking at memory. -/
def okOp (P : Program) (o : Oper) : Bool := match o.op with
  | .fieldAddr s _ f => fieldOk P s f
  | .convert _ d _ => match P.underlying d with
    | some (.int _) => true
    | _ => false
  | _ => true

def isIntV : Value → Bool | .int _ _ => true | _ => false
def isBoolV : Value → Bool | .bool _ => true | _ => false
def isPtrV : Value → Bool | .pointer _ => true | _ => false
def isRowV : Value → Bool | .slice _ _ _ => true | .string _ => true | _ => false

/-- Operations whose run is the same in every world, at these operands. -/
def freeAt (ρ : Operand → Value) (o : Oper) : Bool := match o.op with
  | .move _ | .assign _ | .pick .. | .build .. | .fieldAddr .. | .field .. | .indexAddr .. | .index .. | .extract .. | .unOp .. => true
  | .nilCheck x => isPtrV (ρ x)
  | .convert _ _ x => isIntV (ρ x)
  | .binOp _ _ x y _ => (isIntV (ρ x) && isIntV (ρ y)) || (isBoolV (ρ x) && isBoolV (ρ y))
  | .call { callee := .builtin .len, args, .. } => (args[0]?.map fun x => isRowV (ρ x)).getD false
  | _ => false

section
variable {P : Program} {ops : Array Oper} {σ : SW}

/-- The run is the same in every world and hands on a value. -/
def SteadyV (P : Program) (m : Sem Next) : Prop := ∀ w w' x w1, m.run P w = .ok x w1 → w1 = w ∧ (∃ v, x = .value v) ∧ m.run P w' = .ok x w'
theorem SteadyV.of {m : Sem Value} (h : Steady P m) : SteadyV P (do pure (.value (← m))) := by
  intro w w' x w1 e
  rw [Sem.run_bind] at e ⊢
  cases hm : m.run P w with
  | halt y w2 => rw [hm] at e; cases e
  | ok v w2 =>
    obtain ⟨rfl, h2⟩ := h w w' v w2 hm
    rw [hm] at e
    rw [h2]
    simp only [Result.andThen_ok, Sem.run_pure, Result.ok.injEq] at e ⊢
    exact ⟨e.2.symm, ⟨v, e.1.symm⟩, e.1, trivial⟩
theorem SteadyV.value (v : Value) : SteadyV P (pure (.value v)) := by
  intro w w' x w1 e
  simp only [Sem.run_pure, Result.ok.injEq] at e ⊢
  exact ⟨e.2.symm, ⟨v, e.1.symm⟩, e.1, trivial⟩
theorem SteadyV.never {m : Sem Next} (h : ∀ w x w1, m.run P w ≠ .ok x w1) : SteadyV P m := fun w _ x w1 e => absurd e (h w x w1)

theorem Steady.eqGuardInt (op : BinOp) (t : TypeId) (x y : Operand) (k j : IntKind) (a b : Int) : Steady P (eqGuard op t x y (.int k a) (.int j b)) := by
  cases op <;> exact Steady.pure _
theorem Steady.eqGuardBool (op : BinOp) (t : TypeId) (x y : Operand) (a b : Bool) : Steady P (eqGuard op t x y (.bool a) (.bool b)) := by
  cases op <;> exact Steady.pure _
theorem Steady.equalBool (t : TypeId) (a b : Bool) : Steady P (Op.equal t (.bool a) (.bool b)) := by
  unfold Op.equal Op.maxDepth
  unfold Op.equalIn
  refine Steady.bind (Steady.underlying t) fun d => ?_
  cases d <;> first | exact Steady.pure _ | exact Steady.stuck _
theorem Steady.binBool (op : BinOp) (t : TypeId) (a b : Bool) : Steady P (binOp op t (.bool a) (.bool b)) := by
  cases op <;> first
    | exact Steady.stuck _
    | exact Steady.bind (Steady.equalBool t a b) fun _ => Steady.pure _

theorem freeAt_steady {ρ : Operand → Value} {o : Oper} (hf : freeAt ρ o = true) (hk : okOp P o = true) : SteadyV P (execOp ρ o) := by
  obtain ⟨dst, op, type, pos, after, guard⟩ := o
  unfold freeAt at hf
  unfold okOp at hk
  unfold execOp
  cases op <;> simp only at hf hk ⊢ <;> try (cases hf; done)
  case move x => exact SteadyV.value _
  case assign x => exact SteadyV.value _
  case pick c a b =>
    intro w w' x w1 e
    cases hc : ρ c with
    | bool t =>
      rw [hc] at e
      rw [Sem.run_bind] at e ⊢
      simp only [asBool, Sem.run_pure, Result.andThen_ok, Result.ok.injEq] at e ⊢
      exact ⟨e.2.symm, ⟨_, e.1.symm⟩, e.1, trivial⟩
    | _ => rw [hc] at e; simp [asBool] at e
  case build t ps => exact SteadyV.of (Steady.build _ _)
  case fieldAddr s x f => exact SteadyV.of (Steady.fieldAt _ _ _ hk)
  case field s x f => exact SteadyV.of (Steady.field _ _ _)
  case indexAddr t x i => exact SteadyV.of (Steady.indexAt _ _ _)
  case index t x i => exact SteadyV.of (Steady.index _ _ _)
  case extract x i => exact SteadyV.of (Steady.extract _ _)
  case unOp u t x => exact SteadyV.of (Steady.unary _ _)
  case convert s d x =>
    refine SteadyV.of ?_
    cases hx : ρ x with
    | int k n =>
      refine Steady.convertInt _ _ _ _ ?_
      revert hk
      cases hu : P.underlying d with
      | none => simp
      | some u => cases u <;> simp
    | _ => rw [hx] at hf; cases hf
  case nilCheck x =>
    cases hx : ρ x with
    | pointer p =>
      cases p with
      | none => exact SteadyV.never fun w x w1 => by simp [runtimePanic]
      | some a => exact SteadyV.value _
    | _ => rw [hx] at hf; cases hf
  case binOp op t x y t2 =>
    refine SteadyV.of ?_
    rcases Bool.or_eq_true_iff.1 hf with h | h
    · rw [Bool.and_eq_true] at h
      cases hx : ρ x with
      | int k a =>
        cases hy : ρ y with
        | int j b =>
          exact Steady.bind (Steady.eqGuardInt _ _ _ _ _ _ _ _) fun _ => Steady.binInt _ _ _ _ _ _
        | _ => rw [hy] at h; cases h.2
      | _ => rw [hx] at h; cases h.1
    · rw [Bool.and_eq_true] at h
      cases hx : ρ x with
      | bool a =>
        cases hy : ρ y with
        | bool b =>
          exact Steady.bind (Steady.eqGuardBool _ _ _ _ _ _) fun _ => Steady.binBool _ _ _ _
        | _ => rw [hy] at h; cases h.2
      | _ => rw [hx] at h; cases h.1
  case call c =>
    obtain ⟨callee, args, argTypes⟩ := c
    cases callee with
    | builtin b =>
      cases b <;> simp only at hf <;> try (cases hf; done)
      show SteadyV P (do pure (.value (← Builtin.len_ argTypes type (args.map ρ))))
      refine SteadyV.of (Steady.len _ _ _ ?_ ?_)
      · intro r hr
        rw [Array.getElem?_map] at hr
        cases ha : args[0]? with
        | none => rw [ha] at hf; cases hf
        | some x =>
          rw [ha] at hf hr
          simp only [Option.map_some, Option.some.injEq, Option.getD_some] at hf hr
          rw [hr] at hf; cases hf
      · intro r hr
        rw [Array.getElem?_map] at hr
        cases ha : args[0]? with
        | none => rw [ha] at hf; cases hf
        | some x =>
          rw [ha] at hf hr
          simp only [Option.map_some, Option.some.injEq, Option.getD_some] at hf hr
          rw [hr] at hf; cases hf
    | value f => cases hf
    | invoke r m => cases hf

/-- A load of cells that lie in a block of cells: it sees that block alone. -/
theorem load_steady {t : TypeId} {p : Addr} {w w' : World} (hb : w'.heap[p.block]? = w.heap[p.block]?) (hc : (w.cell? p).isSome = true) {x : Value} {w1 : World} (h : (Instr.loadAt t (.pointer (some p))).run P w = .ok x w1) :
    w1 = w ∧ (Instr.loadAt t (.pointer (some p))).run P w' = .ok x w' := by
  have hcell : ∀ q : Addr, q.block = p.block → w'.cell? q = w.cell? q := fun q hq => World.cell?_of_block (by rw [hq]; exact hb)
  have hfar : ∀ q : Addr, q.block = p.block → ∀ m, ∃ e, w.farLoad P q m = .error e := fun q hq m => by
    unfold World.cell? at hc
    unfold World.farLoad
    rw [hq]
    split at hc
    · rename_i c e f hh; rw [hh]; exact ⟨_, rfl⟩
    · simp at hc
  have hload : ∀ q : Addr, q.block = p.block → ∀ y w2, (load q).run P w = .ok y w2 → w2 = w ∧ (load q).run P w' = .ok y w' := fun q hq y w2 hh => by
    rw [run_load] at hh ⊢
    rw [hcell q hq]
    cases hcq : w.cell? q with
    | some v =>
      rw [hcq] at hh
      simp only [Result.ok.injEq] at hh ⊢
      exact ⟨hh.2.symm, hh.1, trivial⟩
    | none =>
      rw [hcq] at hh
      obtain ⟨e, he⟩ := hfar q hq (Mode.plain == Mode.atomic)
      rw [he] at hh
      cases hh
  have hfrom : ∀ (n i : Nat) (acc : Array Value) (y : Array Value) (w2 : World), (loadCellsFrom p i n acc).run P w = .ok y w2 → w2 = w ∧ (loadCellsFrom p i n acc).run P w' = .ok y w' := by
    intro n
    induction n with
    | zero =>
      intro i acc y w2 hh
      simp only [loadCellsFrom, Sem.run_pure, Result.ok.injEq] at hh ⊢
      exact ⟨hh.2.symm, hh.1, trivial⟩
    | succ n ih =>
      intro i acc y w2 hh
      simp only [loadCellsFrom, Sem.run_bind] at hh ⊢
      cases hl : (load (p.add i)).run P w with
      | halt x w3 => rw [hl] at hh; cases hh
      | ok v w3 =>
        obtain ⟨rfl, h2⟩ := hload _ (block_add p i) v w3 hl
        rw [hl] at hh
        rw [h2]
        simp only [Result.andThen_ok] at hh ⊢
        exact ih _ _ _ _ hh
  unfold Instr.loadAt at h ⊢
  simp only [Instr.sureAddr, Sem.run_bind, Sem.run_pure, Result.andThen_ok, loadVar] at h ⊢
  cases ha : (isAgg t).run P w with
  | halt y w2 => rw [ha] at h; cases h
  | ok b w2 =>
    obtain ⟨rfl, ha'⟩ := Steady.isAgg t w w' b w2 ha
    rw [ha] at h
    rw [ha']
    simp only [Result.andThen_ok] at h ⊢
    cases b with
    | false => simp only [Bool.false_eq_true, if_false] at h ⊢; exact hload p rfl _ _ h
    | true =>
      simp only [if_true, Sem.run_bind] at h ⊢
      cases hz : (sizeOf t).run P w2 with
      | halt y w3 => rw [hz] at h; cases h
      | ok n w3 =>
        obtain ⟨rfl, hz'⟩ := Steady.sizeOf t w2 w' n w3 hz
        rw [hz] at h
        rw [hz']
        simp only [Result.andThen_ok, loadCells] at h ⊢
        cases hl : (loadCellsFrom p 0 n #[]).run P w3 with
        | halt y w4 => rw [hl] at h; cases h
        | ok y w4 =>
          obtain ⟨rfl, hl'⟩ := hfrom n 0 #[] y w4 hl
          rw [hl] at h
          rw [hl']
          simp only [Result.andThen_ok, Sem.run_pure, Result.ok.injEq] at h ⊢
          exact ⟨h.2.symm, h.1, trivial⟩

variable (P ops σ) in
/-- The walk over a region that draws, in the order of its text. -/
def wpX (Q : Act → World → Prop) : List Oper → Act → World → Prop
  | [], a, w => Q a w
  | o :: rest, a, w => if Region.wanted o (yielded ops a.tmps) = true then
      (if effOp o.op = true then o.wp P a w (fun a' w' => σ.S w' ∧ wpX Q rest a' w') (fun _ _ _ => False) else okOp P o = true → ∃ v, YieldsS P σ o v a ∧ wpX Q rest (a.put o.dst v) w)
    else wpX Q rest (a.put o.dst undef) w

theorem wpT_of_wpX {Q : Act → World → Prop} (hok : ops.all (okOp P) = true) : ∀ (l : List Oper) (k : Nat), (∀ j, j < l.length → ops[k + j]? = l[j]?) → ∀ a w, wpX P ops σ Q l a w → wpT P ops σ Q (List.range' k l.length) a w := by
  intro l
  induction l with
  | nil => intro k _ a w h; exact h
  | cons o l ih =>
    intro k hl a w h
    have h0 : ops[k]? = some o := by simpa using hl 0 (by simp)
    have ih' := ih (k + 1) (fun j hj => by have := hl (j + 1) (by simp; omega); simpa [Nat.add_assoc, Nat.add_comm 1 j] using this)
    have hoko : okOp P o = true := Array.all_eq_true_iff_forall_mem.1 hok o (Array.mem_of_getElem? h0)
    rw [List.length_cons, List.range'_succ]
    unfold wpX at h
    unfold wpT stepT
    rw [h0]
    have he : effAt ops k = effOp o.op := by simp [effAt, h0]
    rw [he]
    simp only
    split
    · rename_i hw
      rw [if_pos hw] at h
      split
      · rename_i hh; rw [if_pos hh] at h; exact Oper.wp_mono (fun a w h => ⟨h.1, ih' _ _ h.2⟩) h
      · rename_i hh
        rw [if_neg hh] at h
        obtain ⟨v, h1, h2⟩ := h hoko
        exact ⟨v, h1, ih' _ _ h2⟩
    · rename_i hw; rw [if_neg hw] at h; exact ih' _ _ h

theorem wp_region_x {id : Nat} {l : List Oper} {a : Act} {w : World} (hm : P.follows .mixedOrders = true) (hc : certOk l.toArray (Region.before l.toArray) = true) (hsel : Region.noSelect l.toArray = true) (hok : l.toArray.all (okOp P) = true) (St : Nat → Prop) {Q' : Exit → Act → World → Prop}
    (h : ∀ w0, w0 = w.drew → Same St w0 w0 → wpX P l.toArray (SW.of St w0) (fun a w => Q' .normal a w) l a w0) : (Code.region id l.toArray true).wp P Q' a w := by
  refine wp_region_text (σ := SW.of St w.drew) hm hc hsel (Same.refl _ _) ?_
  have := wpT_of_wpX (P := P) (ops := l.toArray) (σ := SW.of St w.drew) hok l 0 (fun j hj => by simp) a w.drew (h w.drew rfl (Same.refl _ _))
  simpa [List.range_eq_range'] using this
/-- The same where what stays true is said by S. -/
theorem wp_region_s {id : Nat} {l : List Oper} {a : Act} {w : World} (hm : P.follows .mixedOrders = true) (hc : certOk l.toArray (Region.before l.toArray) = true) (hsel : Region.noSelect l.toArray = true) (hok : l.toArray.all (okOp P) = true) (S : World → Prop) (hS : S w.drew) {Q' : Exit → Act → World → Prop}
    (h : ∀ w0 (h0 : S w0), w0 = w.drew → wpX P l.toArray ⟨S, w0, h0⟩ (fun a w => Q' .normal a w) l a w0) : (Code.region id l.toArray true).wp P Q' a w := by
  refine wp_region_text (σ := ⟨S, w.drew, hS⟩) hm hc hsel hS ?_
  have := wpT_of_wpX (P := P) (ops := l.toArray) (σ := ⟨S, w.drew, hS⟩) hok l 0 (fun j hj => by simp) a w.drew (h w.drew hS rfl)
  simpa [List.range_eq_range'] using this

variable {Q : Act → World → Prop} {o : Oper} {rest : List Oper} {a : Act} {w : World}
theorem wpX_nil (h : Q a w) : wpX P ops σ Q [] a w := h
theorem wpX_skip (hw : Region.wanted o (yielded ops a.tmps) = false) (h : wpX P ops σ Q rest (a.put o.dst undef) w) : wpX P ops σ Q (o :: rest) a w := by
  unfold wpX
  rw [if_neg (by rw [hw]; simp)]
  exact h
theorem wpX_steady (hw : Region.wanted o (yielded ops a.tmps) = true) (he : effOp o.op = false)
    (hs : okOp P o = true → ∀ x w1, (execOp a.eval o).run P w = .ok x w1 → w1 = w ∧ (∃ v, x = .value v) ∧ ∀ w', σ.S w' → (execOp a.eval o).run P w' = .ok x w')
    (h : ∀ K : Act → World → Prop, (∀ a w, wpX P ops σ Q rest a w → K a w) → o.wp P a w K (fun _ _ _ => False)) : wpX P ops σ Q (o :: rest) a w := by
  unfold wpX
  rw [if_pos hw, if_neg (by rw [he]; simp)]
  intro hok
  have h1 := h (wpX P ops σ Q rest) (fun _ _ h => h)
  have h2 := hs hok
  unfold Oper.wp at h1
  cases hr : (execOp a.eval o).run P w with
  | halt x w1 =>
    rw [hr] at h1
    cases x <;> simp only [Oper.upon] at h1
  | ok x w1 =>
    obtain ⟨rfl, ⟨v, rfl⟩, h3⟩ := h2 x w1 hr
    rw [hr] at h1
    exact ⟨v, h3, h1⟩
theorem wpX_free (hw : Region.wanted o (yielded ops a.tmps) = true) (he : effOp o.op = false) (hf : freeAt a.eval o = true)
    (h : ∀ K : Act → World → Prop, (∀ a w, wpX P ops σ Q rest a w → K a w) → o.wp P a w K (fun _ _ _ => False)) : wpX P ops σ Q (o :: rest) a w :=
  wpX_steady hw he (fun hok x w1 hr => by
    have hs := freeAt_steady hf hok
    obtain ⟨h1, h2, _⟩ := hs w w x w1 hr
    exact ⟨h1, h2, fun w' _ => (hs w w' x w1 hr).2.2⟩) h
theorem wpX_load {St : Nat → Prop} {w0 : World} (hw : Region.wanted o (yielded ops a.tmps) = true) {t : TypeId} {x : Operand} {p : Addr} (ho : o.op = .load t x) (hx : a.eval x = .pointer (some p)) (hS : St p.block) (hs : Same St w0 w) (hc : (w.cell? p).isSome = true)
    (h : ∀ K : Act → World → Prop, (∀ a w, wpX P ops (SW.of St w0) Q rest a w → K a w) → o.wp P a w K (fun _ _ _ => False)) : wpX P ops (SW.of St w0) Q (o :: rest) a w :=
  wpX_steady hw (by rw [ho]; rfl) (fun _ y w1 hr => by
    have hrun : ∀ v : World, (execOp a.eval o).run P v = ((Instr.loadAt t (.pointer (some p))).run P v).andThen fun u w' => .ok (.value u) w' := fun v => by
      unfold execOp
      rw [ho]
      simp only [hx, Sem.run_bind, Sem.run_pure]
    rw [hrun] at hr
    cases hl : (Instr.loadAt t (.pointer (some p))).run P w with
    | halt z w2 => rw [hl] at hr; cases hr
    | ok u w2 =>
      rw [hl] at hr
      simp only [Result.andThen_ok, Result.ok.injEq] at hr
      obtain ⟨rfl, rfl⟩ := hr
      refine ⟨(load_steady (P := P) (w' := w) rfl hc hl).1, ⟨u, rfl⟩, fun w' hw' => ?_⟩
      have := (load_steady (P := P) (w := w) (w' := w') ((hw' _ hS).trans (hs _ hS).symm) hc hl).2
      rw [hrun, this]
      rfl) h
theorem wpX_eff (hw : Region.wanted o (yielded ops a.tmps) = true) (he : effOp o.op = true)
    (h : ∀ K : Act → World → Prop, (∀ a w, σ.S w ∧ wpX P ops σ Q rest a w → K a w) → o.wp P a w K (fun _ _ _ => False)) : wpX P ops σ Q (o :: rest) a w := by
  unfold wpX
  rw [if_pos hw, if_pos he]
  exact h _ (fun _ _ h => h)
/-- Any other operation that yields v in every world that agrees. -/
theorem wpX_yield (hw : Region.wanted o (yielded ops a.tmps) = true) (he : effOp o.op = false) (v : Value) (hv : ∀ w, σ.S w → (execOp a.eval o).run P w = .ok (.value v) w) (h : wpX P ops σ Q rest (a.put o.dst v) w) : wpX P ops σ Q (o :: rest) a w := by
  unfold wpX
  rw [if_pos hw, if_neg (by rw [he]; simp)]
  exact fun _ => ⟨v, hv, h⟩
end

theorem Same.chg {St : Nat → Prop} {w0 w w1 : World} {b : Nat} (hs : Same St w0 w) (hg : Chg b w w1) (h : ∀ k, St k → k < w.heap.size ∧ k ≠ b) : Same St w0 w1 :=
  fun k hk => (hg.block k (h k hk).1 (h k hk).2).trans (hs k hk)
theorem Same.set {St : Nat → Prop} {w0 w : World} (hs : Same St w0 w) {p : Addr} (h : ∀ k, St k → k ≠ p.block) (x : Value) : Same St w0 (w.setCell p x) :=
  fun k hk => (Below.heap_setCell _ _ _ _ (h k hk)).trans (hs k hk)
theorem Same.new {St : Nat → Prop} {w0 w : World} (hs : Same St w0 w) (h : ∀ k, St k → k < w.heap.size) (o : Obj) : Same St w0 (w.alloc o) :=
  fun k hk => (Below.heap_alloc _ _ _ (h k hk)).trans (hs k hk)
theorem Same.cell {St : Nat → Prop} {w0 w : World} (hs : Same St w0 w) {k : Nat} (hk : St k) (o : Nat) : w.cell? ⟨k, o, none⟩ = w0.cell? ⟨k, o, none⟩ := World.cell?_of_block (hs k hk)
end Go.Proofs.Ytfmcicmbehjdcaa
