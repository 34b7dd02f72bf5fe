/- A set of ints kept as a map[int]bool: asked with either answer under a guard; put into as a step of a region that draws. -/
import Derived.Test.YtfmcicmbehjdcaaSet
namespace Go.Proofs.Ytfmcicmbehjdcaa
set_option linter.unusedSimpArgs false
set_option linter.unusedVariables false
open Go.RowKit
section
variable {P : Program} {D : Nat → Prop} {W w : World} {L : List Item}
theorem wpList_lookup_any {ops : Array Oper} {rest : List Oper} {o : Oper} {a : Act} {Q : Exit → Act → World → Prop} (hw : Region.wanted o (yielded ops a.tmps) = true) (m x : Operand) {t k e : TypeId} (ho : o.op = .lookup t m x false)
    (ht : P.underlying t = some (.map k e)) (hk : P.underlying k = some (.int .i64)) (he : ∀ w, (zeroValue e).run P w = .ok (.bool false) w) (H : HS D W L w) (i : Nat) {b : Nat} {es : Array MapEntry} {clock : Nat} (hi : L[i]? = some (.obj b (.map es clock))) {S : List Int} (hS : SetM es S)
    (hm : a.eval m = .map (some b)) {n : Int} (hx : a.eval x = .int .i64 n) {r : Bool} (hn : decide (n ∈ S) = r) (h : wpList P ops Q rest (a.put o.dst (.bool r)) w) : wpList P ops Q (o :: rest) a w := by
  unfold wpList
  rw [if_pos hw]
  refine .inl ?_
  have hr := run_lookup_set ht hk he (H.at i hi) hS n
  rw [hn] at hr
  unfold Oper.wp execOp
  simp only [ho, hm, hx, Sem.run_bind, hr, Result.andThen_ok, Sem.run_pure]
  exact h
theorem step_update_set {ops : Array Oper} {o : Oper} {a : Act} {K : Act → World → Prop} {Q : Exit → Act → World → Prop} {E : Prop} (hgd : o.guard = none) (m x y : Operand) {t k e : TypeId} (ho : o.op = .mapUpdate t m x y)
    (ht : P.underlying t = some (.map k e)) (hk : P.underlying k = some (.int .i64)) (H : HS D W L w) (i : Nat) {b : Nat} {es : Array MapEntry} {clock : Nat} (hi : L[i]? = some (.obj b (.map es clock))) {S : List Int} (hS : SetM es S)
    (hm : a.eval m = .map (some b)) {n : Int} (hx : a.eval x = .int .i64 n) (hy : a.eval y = .bool true) (hn : n ∉ S)
    (h : ∀ w' es' clock', SetM es' (S ++ [n]) → HS D W (L.set i (.obj b (.map es' clock'))) w' → K (a.put o.dst undef) w') :
    if Region.wanted o (yielded ops a.tmps) = true then Oper.wp P o a w K Q else E := by
  have hw : Region.wanted o (yielded ops a.tmps) = true := by simp [Region.wanted, hgd]
  rw [if_pos hw]
  have hr := run_update_set (e := e) ht hk (H.at i hi) hS hn
  unfold Oper.wp execOp
  simp only [ho, hm, hx, hy, Sem.run_bind, hr, Result.andThen_ok, Sem.run_pure]
  exact h _ _ _ (hS.push n clock) (H.objAt i hi _)
/-- The world behind a store into a set. -/
theorem HS.updSet {t k e : TypeId} (ht : P.underlying t = some (.map k e)) (hk : P.underlying k = some (.int .i64)) (H : HS D W L w) (i : Nat) {b : Nat} {es : Array MapEntry} {clock : Nat} (hi : L[i]? = some (.obj b (.map es clock))) {S : List Int} (hS : SetM es S) {n : Int} (hn : n ∉ S) :
    ∃ (U : World) (es' : Array MapEntry) (clock' : Nat), (Instr.mapUpdate t (.map (some b)) (.int .i64 n) (.bool true)).run P w = .ok () U ∧ Hid (SetM es' (S ++ [n])) ∧ HS D W (L.set i (.obj b (.map es' clock'))) U :=
  ⟨_, _, _, run_update_set (e := e) ht hk (H.at i hi) hS hn, hS.push n clock, H.objAt i hi _⟩
end
end Go.Proofs.Ytfmcicmbehjdcaa
