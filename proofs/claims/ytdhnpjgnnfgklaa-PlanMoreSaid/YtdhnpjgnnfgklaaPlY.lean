/- Plan (chapter 39): what the laws' walks share. -/
import Derived.Test.YtdhnpjgnnfgklaaPlU
import Derived.Test.YtdhnpjgnnfgklaaPlV
import Derived.Test.YtdhnpjgnnfgklaaPlX
namespace Go.Proofs.Ytdhnpjgnnfgklaa
set_option linter.unusedSimpArgs false
set_option linter.unusedVariables false
open Go.RowKit
set_option maxRecDepth 100000
attribute [local irreducible] wpX wpF Calls
attribute [local go_sem] run_mkMapG

theorem gives_of39 {n : Nat} {args : Array Value} {v : Value} {w : World} (h : Calls Try.prog n args w fun e w' => e = .returned v ∧ w = w') : Calls Try.prog n args w (Gives v w) := by
  refine h.mono ?_
  rintro _ w' ⟨rfl, rfl⟩
  exact ⟨rfl, Below.refl _ _⟩
theorem row_capN {w : World} {B k n c : Nat} {e : TypeId} {sa : Option Addr} {cs : List Value} (h : w.ownsRow B e k (.slice sa n c) n cs) : n ≤ c := by
  rcases h.2 with ⟨hv, hn⟩ | ⟨g, cap, cur, hv, -, -, h1, -⟩
  · omega
  · obtain ⟨-, -, rfl⟩ := Value.slice.inj hv; exact h1
theorem best_facts {l : List Nd} (h : LossOk l) (a b : Int) : (0 ≤ (bestP l a b).saved ∧ (bestP l a b).saved ≤ l.length * 1099511627776) ∧ (bestP l a b).rows.length ≤ l.length ∧ (bestP l a b).ranks.length ≤ l.length := by
  obtain ⟨rs, h1, -, h2⟩ := bestP_is h.nn a b
  rw [h2]
  have h3 := wk_bound h (rowsFor l a rs) rs l.length (Nat.le_refl _)
  rw [wk_full] at h3
  refine ⟨h3, ?_, Nat.le_trans h1.length_le (allR_len l)⟩
  have := rowsK_len l a rs l.length
  rw [rowsK_full] at this
  exact this
end Go.Proofs.Ytdhnpjgnnfgklaa
