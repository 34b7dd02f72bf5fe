/- In a region that draws: a struct stored whole over an old block; a call that hands back things. -/
import Derived.Test.YtplflpmkomeadaaDoorK4
namespace Go.Proofs.YtplflpmkomeadaaDoor
set_option linter.unusedSimpArgs false
set_option linter.unusedVariables false
open Go.RowKit

theorem Same.eqW {St : Nat → Prop} {w0 w w' : World} (e : w = w') (h : Same St w0 w) : Same St w0 w' := e ▸ h
theorem Same.setAll {St : Nat → Prop} {w0 w : World} (hs : Same St w0 w) {b : Nat} (h : ∀ k, St k → k ≠ b) (i : Nat) (vs : List Value) : Same St w0 (Proofs.YtplflpmkomeadaaDoor.setAll b i vs w) := fun k hk => ((setAll_same vs b i w).2.2.2.2 k (h k hk)).trans (hs k hk)
theorem two_low {A B : Item} (ha : A.low = 0) (hb : B.low = 0) : ∀ X ∈ [A, B], X.low = 0 := fun X hX => by
  rcases List.mem_cons.1 hX with rfl | hX
  · exact ha
  · cases List.mem_singleton.1 hX; exact hb
/-- A new variable stored to, in a region with calls that hand back things. -/
theorem wpH_store {P : Program} {ops : Array Oper} {St D : Nat → Prop} {W w0 : World} {Q : Act → Fl → List Item → Prop} {o : Oper} {rest : List Oper} {a : Act} {F : Fl} {L : List Item} (hw : Region.wanted o (yielded ops a.tmps) = true) {ty t : TypeId} {x y : Operand} (ho : o.op = .store ty x y) {b : Nat} {old cs : Array Value} {v : Value} (hx : a.eval x = .pointer (some ⟨b, 0, none⟩)) (hy : a.eval y = v)
    (hF : F b = some (old, t)) (hcs : v.cells = cs) (hi : (P.info? ty).map (·.size) = some cs.size) (hz : old.size = cs.size) (h1 : cs.toList.all (·.oneCell') = true)
    (h : ∀ K : Act → World → Prop, (∀ a w, wpH P St D W w0 ops Q rest a (F.put b (cs, t)) L → K a w) → K (a.put o.dst undef) w0) : wpH P St D W w0 ops Q (o :: rest) a F L := by
  unfold wpH stepH
  rw [if_pos hw, show fkG o.op = .store from by rw [ho]; rfl]
  refine ⟨b, old, cs, t, hF, fun w hc => ?_, h (fun a _ => wpH P St D W w0 ops Q rest a (F.put b (cs, t)) L) (fun _ _ h => h)⟩
  have hb := (hc.laid b _ hF).2.1
  unfold execOp
  rw [ho]
  simp only [hx, hy, Sem.run_bind, Sem.run_pure, Instr.storeAt, Instr.sureAddr, Result.andThen_ok]
  have := run_storeCells_from (P := P) b t cs.toList 0 old w hb (by simp; omega) (fun v hv => List.all_eq_true.1 h1 v hv)
  cases hq : P.info? ty with
  | none => simp [hq] at hi
  | some i =>
    have hs : cs.size = i.size := by simp [hq] at hi; omega
    simp only [storeVar, sizeOf, typeInfo, Sem.run_bind, run_program, hq, Result.andThen_ok, Sem.run_pure, hcs, hs, ne_eq, not_true, if_false]
    rw [this]
    rfl
end Go.Proofs.YtplflpmkomeadaaDoor
