/- 'append(a, b...)' of two slices of one's own. -/
import Derived.Test.YtfmcicmbehjdcaaRow
import Derived.Maps.AppendAt
import Derived.Laws.OwnMore
namespace Go.Proofs.Ytfmcicmbehjdcaa
set_option linter.unusedSimpArgs false
set_option linter.unusedVariables false
open Go.RowKit

section
variable {P : Program} {D : Nat → Prop} {W w : World} {L : List Item}
theorem run_append_rows {t e : TypeId} {z : Value} {size bytes : Nat} (hE : Elem P t e z size bytes) (ty : TypeId) (H : HS D W L w) (k : Nat) {v : Value} {n : Nat} {xs : List Value} (hk : L[k]? = some (.row v e size n xs))
    (j : Nat) {u : Value} {m : Nat} {ys : List Value} (hj : L[j]? = some (.row u e size m ys)) (h1 : ∀ y ∈ ys, y.oneCell' = true) (h63 : n + m ≤ maxLen) (hbytes : (n + m) * bytes ≤ 140737488355328) :
    ∃ v' w', (Builtin.append_ #[t, t] ty #[v, u]).run P w = .ok v' w' ∧ HS D W (L.set k (.row v' e size (n + m) (xs ++ ys))) w' ∧ w.grownBy w' v.ownBlock := by
  obtain ⟨i, i1, i2, i3, i4⟩ := hE.hi
  have hu : w.ownsRow 0 e size u m ys := H.at j hj
  rcases hu.2 with ⟨rfl, rfl⟩ | ⟨g, cap, cur, rfl, hg, hh, r⟩
  · have hys : ys = [] := List.eq_nil_of_length_eq_zero (by have := hu.1; simpa using this)
    subst hys
    refine ⟨v, w, run_append_owned_none w 0 t ty e i size hE.ht i1 v n xs (H.at k hk), ?_, ⟨rfl, rfl, rfl, Nat.le_refl _, fun _ _ _ => rfl⟩⟩
    have e1 : L.set k (.row v e size (n + 0) (xs ++ [])) = L := by
      rw [Nat.add_zero, List.append_nil]
      obtain ⟨hlt, he⟩ := List.getElem?_eq_some_iff.1 hk
      rw [← he, List.set_getElem_self]
    rw [e1]
    exact H
  · obtain ⟨v', w', h2, h3, h4, -, h5⟩ := run_append_own_at (P := P) w 0 t ty e i z size bytes hE.ht i1 i2 i3 i4 hE.hzs hE.pos v n xs (H.at k hk) ⟨g, 0, none⟩ m cap ys hu.1 (fun q y hq => by
        have hlt : q < m * size := by have := (List.getElem?_eq_some_iff.1 hq).1; rw [hu.1] at this; exact this
        have := World.ownsRow.cellAt hu q hlt
        rw [hq] at this
        by_cases e0 : q = 0
        · subst e0; simpa [Addr.add] using this
        · simpa [Addr.add, e0] using this) h1 h63 hbytes (Nat.zero_le _)
    refine ⟨v', w', h2, H.grownAt k hk h4 (.inr ⟨h3, fun b hb => ?_⟩), h4⟩
    rcases h5 with h5 | h5
    · exact .inl (by rw [← h5]; exact hb)
    · rw [h5] at hb
      exact .inr (by injection hb with hb; omega)
/-- At the operation, in a region that draws. -/
theorem wpX_appendRow_H {ops : Array Oper} {σ : SW} {a : Act} {o : Oper} {rest : List Oper} {Q : Act → World → Prop} (hw : Region.wanted o (yielded ops a.tmps) = true) (he : effOp o.op = true) (s x : Operand) (t : TypeId)
    (ho : o.op = .call { callee := .builtin .append, args := #[s, x], argTypes := #[t, t] }) {e : TypeId} {z : Value} {size bytes : Nat} (hE : Elem P t e z size bytes)
    (H : HS D W L w) (k : Nat) {v : Value} {n : Nat} {xs : List Value} (hk : L[k]? = some (.row v e size n xs)) (hs : a.eval s = v)
    (j : Nat) {u : Value} {m : Nat} {ys : List Value} (hj : L[j]? = some (.row u e size m ys)) (hx : a.eval x = u) (h1 : ∀ y ∈ ys, y.oneCell' = true) (h63 : n + m ≤ maxLen) (hbytes : (n + m) * bytes ≤ 140737488355328)
    (h : ∀ v' w', HS D W (L.set k (.row v' e size (n + m) (xs ++ ys))) w' → w.grownBy w' v.ownBlock → σ.S w' ∧ wpX P ops σ Q rest (a.put o.dst v') w') : wpX P ops σ Q (o :: rest) a w := by
  obtain ⟨v', w', h2, h3, h4⟩ := run_append_rows hE o.type H k hk j hj h1 h63 hbytes
  refine wpX_eff hw he fun K hK => ?_
  unfold Oper.wp execOp
  simp only [ho, resolve, invoke, builtin, Sem.run_bind, Sem.run_pure, Result.andThen_ok, List.map_toArray, List.map_cons, List.map_nil, hs, hx, h2]
  exact hK _ _ (h v' w' h3 h4)
end
theorem ownsRow_base {w : World} {B : Nat} {e : TypeId} {s n : Nat} {v : Value} {xs : List Value} (h : w.ownsRow B e s v n xs) : ∀ k, v.ownBlock = some k → B ≤ k := fun k hk => by
  rcases h.2 with ⟨h2, _⟩ | ⟨g, cap, cur, hv, hg, hh, r⟩
  · rw [h2] at hk; cases hk
  · rw [hv] at hk
    obtain rfl : g = k := by simpa [Value.ownBlock] using hk
    exact hg
theorem Same.grownS {X : Nat → Prop} {w0 w w1 : World} {row : Option Nat} (hs : Same (Stay X w0) w0 w) (hz : w0.heap.size ≤ w.heap.size) (hg : w.grownBy w1 row) (hr : ∀ k, row = some k → w0.heap.size ≤ k) : Same (Stay X w0) w0 w1 := fun k hk => (hg.block k (Nat.lt_of_lt_of_le hk.1 hz) (fun e => by have := hr k e.symm; have := hk.1; omega)).trans (hs k hk)
end Go.Proofs.Ytfmcicmbehjdcaa
