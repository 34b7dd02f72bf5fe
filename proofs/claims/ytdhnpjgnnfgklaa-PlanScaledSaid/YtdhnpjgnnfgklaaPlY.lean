/- Plan (chapter 39): what the laws' walks share. -/
import Derived.Test.YtdhnpjgnnfgklaaPlU
import Derived.Test.YtdhnpjgnnfgklaaPlV
import Derived.Test.YtdhnpjgnnfgklaaPlX
namespace Go.Proofs.Ytdhnpjgnnfgklaa
set_option linter.unusedSimpArgs false
set_option linter.unusedVariables false
open Go.RowKit
set_option maxRecDepth 100000
attribute [local irreducible] wpX wpF Calls
attribute [local go_sem] run_mkMapG

theorem gives_of39 {n : Nat} {args : Array Value} {v : Value} {w : World} (h : Calls Try.prog n args w fun e w' => e = .returned v ∧ w = w') : Calls Try.prog n args w (Gives v w) := by
  refine h.mono ?_
  rintro _ w' ⟨rfl, rfl⟩
  exact ⟨rfl, Below.refl _ _⟩
theorem row_capN {w : World} {B k n c : Nat} {e : TypeId} {sa : Option Addr} {cs : List Value} (h : w.ownsRow B e k (.slice sa n c) n cs) : n ≤ c := by
  rcases h.2 with ⟨hv, hn⟩ | ⟨g, cap, cur, hv, -, -, h1, -⟩
  · omega
  · obtain ⟨-, -, rfl⟩ := Value.slice.inj hv; exact h1
theorem src_rowN {w : World} {k n c : Nat} {e : TypeId} {sa : Option Addr} {cs : List Value} (h : w.ownsRow 0 e k (.slice sa n c) n cs) : SrcOk w sa n c cs := by
  rcases h.2 with ⟨hv, hn⟩ | ⟨g, cap, cur, hv, -⟩
  · obtain ⟨rfl, rfl, rfl⟩ := Value.slice.inj hv
    exact .inl ⟨rfl, rfl, rfl⟩
  · obtain ⟨rfl, -, rfl⟩ := Value.slice.inj hv
    refine .inr ⟨_, rfl, fun q y hq => ?_⟩
    have hl := (List.getElem?_eq_some_iff.1 hq).1
    rw [h.1] at hl
    rw [addr_addP, Nat.zero_add]
    exact (World.ownsRow.cellAt h q hl).trans hq
theorem set_loss : ∀ (ys : List Nd) (k : Nat) (v : Int), k < ys.length → (ys.flatMap ndC).set (k * 7 + 6) (.int .i64 v) = (ys.set k ⟨(ys[k]!).p, v⟩).flatMap ndC
  | [], k, v, h => absurd h (by simp)
  | y :: ys, 0, v, h => by
    rw [List.flatMap_cons, List.set_cons_zero, List.flatMap_cons]
    rfl
  | y :: ys, k + 1, v, h => by
    have h0 : k < ys.length := by simpa using h
    have h1 : (y :: ys)[k + 1]! = ys[k]! := by rw [getElem!_pos (y :: ys) (k + 1) h, getElem!_pos ys k h0]; rfl
    rw [h1, List.flatMap_cons, List.set_cons_succ, List.flatMap_cons, ← set_loss ys k v h0, List.set_append_right _ _ (by rw [ndC_len]; omega), ndC_len, show (k + 1) * 7 + 6 - 7 = k * 7 + 6 by omega]
theorem dblK_at {l : List Nd} {k : Nat} (hk : k < l.length) : ((l.take k).map dbl ++ l.drop k)[k]! = l[k]! := by
  have h0 : ((l.take k).map dbl).length = k := by rw [List.length_map, List.length_take]; omega
  rw [getElem!_pos _ k (by rw [List.length_append, h0, List.length_drop]; omega), getElem!_pos l k hk, List.getElem_append_right (by omega)]
  simp [Nat.min_eq_left (Nat.le_of_lt hk)]
theorem dblK_set {l : List Nd} {k : Nat} (hk : k < l.length) : ((l.take k).map dbl ++ l.drop k).set k (dbl l[k]!) = (l.take (k + 1)).map dbl ++ l.drop (k + 1) := by
  have h0 : ((l.take k).map dbl).length = k := by rw [List.length_map, List.length_take]; omega
  rw [List.set_append_right _ _ (by omega), h0, Nat.sub_self, List.drop_eq_getElem_cons hk, List.set_cons_zero, List.take_add_one, List.getElem?_eq_getElem hk, List.map_append, List.append_assoc, getElem!_pos l k hk]
  rfl
theorem best_facts {l : List Nd} (h : LossOk l) (a b : Int) : (0 ≤ (bestP l a b).saved ∧ (bestP l a b).saved ≤ l.length * 1099511627776) ∧ (bestP l a b).rows.length ≤ l.length ∧ (bestP l a b).ranks.length ≤ l.length := by
  obtain ⟨rs, h1, -, h2⟩ := bestP_is h.nn a b
  rw [h2]
  have h3 := wk_bound h (rowsFor l a rs) rs l.length (Nat.le_refl _)
  rw [wk_full] at h3
  refine ⟨h3, ?_, Nat.le_trans h1.length_le (allR_len l)⟩
  have := rowsK_len l a rs l.length
  rw [rowsK_full] at this
  exact this
theorem NdsOk.dbl {s : P6} {l : List Nd} (h : NdsOk s l) (hs : SV s.a s.b s.c s.d s.e s.f) (hl : l.length ≤ 8) : validN s (l.map Go.Proofs.Ytdhnpjgnnfgklaa.dbl) := by
  refine ⟨hs, by rw [List.length_map]; omega, fun i hi => ?_⟩
  rw [List.length_map] at hi
  have h1 := h i hi
  have e1 : (l.map Go.Proofs.Ytdhnpjgnnfgklaa.dbl)[i]! = Go.Proofs.Ytdhnpjgnnfgklaa.dbl l[i]! := by rw [getElem!_pos (l.map Go.Proofs.Ytdhnpjgnnfgklaa.dbl) i (by rw [List.length_map]; exact hi), getElem!_pos l i hi, List.getElem_map]
  unfold goodN at h1 ⊢
  rw [e1, ← List.map_take]
  refine ⟨h1.1.1, h1.1.2.1, ?_, ?_, fun x hx => ?_⟩
  · have := h1.1.2.2.1; show 0 ≤ l[i]!.loss * 2; omega
  · have := h1.2; show l[i]!.loss * 2 ≤ 1099511627776; omega
  · obtain ⟨y, hy, rfl⟩ := List.mem_map.1 hx
    exact h1.1.2.2.2.2 y hy
end Go.Proofs.Ytdhnpjgnnfgklaa
