/- 'append' of what lies anywhere, as a step of a region that draws (as PgE, for any seat). -/
import Derived.Test.YtdhnpjgnnfgklaaK2
namespace Go.Proofs.Ytdhnpjgnnfgklaa
set_option linter.unusedSimpArgs false
set_option linter.unusedVariables false
open Go.RowKit
set_option maxRecDepth 100000
attribute [local irreducible] wpX wpF Calls

section
variable {P : Program} {D : Nat → Prop} {W w : World} {L : List Item}
/-- 'append' of what lies anywhere onto a slice of one's own, as one step of a region that draws. -/
theorem step_apX {ops : Array Oper} {o : Oper} {a : Act} {K : Act → World → Prop} {Q : Exit → Act → World → Prop} {E : Prop} (hgd : o.guard = none) (s x : Operand) (t : TypeId)
    (ho : o.op = .call { callee := .builtin .append, args := #[s, x], argTypes := #[t, t] }) {e : TypeId} {z : Value} {size bytes : Nat} (hE : Elem P t e z size bytes)
    (H : HS D W L w) (k : Nat) {v : Value} {n : Nat} {xs : List Value} (hk : L[k]? = some (.row v e size n xs)) (hs : a.eval s = v)
    {sa : Option Addr} {m c : Nat} {news : List Value} (hx : a.eval x = .slice sa m c) (hsrc : SrcOk w sa m c news) (hl : news.length = m * size) (h1 : ∀ y ∈ news, y.oneCell' = true) (h63 : n + m ≤ maxLen) (hbytes : (n + m) * bytes ≤ 140737488355328) {N : Nat} (hN : n + m = N)
    (h : ∀ s' c' w', HS D W (L.set k (.row (.slice s' N c') e size N (xs ++ news))) w' → w.grownBy w' v.ownBlock → K (a.put o.dst (.slice s' N c')) w') :
    if Region.wanted o (yielded ops a.tmps) = true then Oper.wp P o a w K Q else E := by
  subst hN
  have hw : Region.wanted o (yielded ops a.tmps) = true := by simp [Region.wanted, hgd]
  rw [if_pos hw]
  obtain ⟨v', w', h2, h3, h4, h5⟩ := run_append_src hE o.type H k hk hsrc hl h1 h63 hbytes
  have hlt : k < (L.set k (.row v' e size (n + m) (xs ++ news))).length := by rw [List.length_set]; exact (List.getElem?_eq_some_iff.1 hk).1
  have hrow : w'.ownsRow 0 e size v' (n + m) (xs ++ news) := h3.at k (A := .row v' e size (n + m) (xs ++ news)) (by rw [List.getElem?_set_self (by simpa using hlt)])
  obtain ⟨s', c', rfl⟩ := ownsRow_slice hrow
  unfold Oper.wp execOp
  simp only [ho, resolve, invoke, builtin, Sem.run_bind, Sem.run_pure, Result.andThen_ok, List.map_toArray, List.map_cons, List.map_nil, hs, hx, h2]
  exact h s' c' w' h3 h4
/-- The same at a plain region's list. -/
theorem wpList_apX {ops : Array Oper} {rest : List Oper} {o : Oper} {a : Act} {Q : Exit → Act → World → Prop} (hgd : o.guard = none) (s x : Operand) (t : TypeId)
    (ho : o.op = .call { callee := .builtin .append, args := #[s, x], argTypes := #[t, t] }) {e : TypeId} {z : Value} {size bytes : Nat} (hE : Elem P t e z size bytes)
    (H : HS D W L w) (k : Nat) {v : Value} {n : Nat} {xs : List Value} (hk : L[k]? = some (.row v e size n xs)) (hs : a.eval s = v)
    {sa : Option Addr} {m c : Nat} {news : List Value} (hx : a.eval x = .slice sa m c) (hsrc : SrcOk w sa m c news) (hl : news.length = m * size) (h1 : ∀ y ∈ news, y.oneCell' = true) (h63 : n + m ≤ maxLen) (hbytes : (n + m) * bytes ≤ 140737488355328) {N : Nat} (hN : n + m = N)
    (h : ∀ s' c' w', HS D W (L.set k (.row (.slice s' N c') e size N (xs ++ news))) w' → w.grownBy w' v.ownBlock → wpList P ops Q rest (a.put o.dst (.slice s' N c')) w') : wpList P ops Q (o :: rest) a w :=
  wpList_plain hgd fun K hK => by
    have := step_apX (ops := ops) (K := K) (Q := fun e a w => Q e a w) (E := True) hgd s x t ho hE H k hk hs hx hsrc hl h1 h63 hbytes hN fun s' c' w' h2 h3 => hK _ _ (h s' c' w' h2 h3)
    rwa [if_pos (by simp [Region.wanted, hgd])] at this
end
end Go.Proofs.Ytdhnpjgnnfgklaa
