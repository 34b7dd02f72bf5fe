/- The statement PlanMore, proved: whatever the input, the law's call answers true and leaves the input as it was. No condition. -/
import Derived.Test.YtdhnpjgnnfgklaaLawZ
import Derived.Test.YtdhnpjgnnfgklaaPlMo
namespace Go.Proofs.Ytdhnpjgnnfgklaa.planMore
set_option linter.unusedSimpArgs false
set_option linter.unusedVariables false
open Go.RowKit Go.WideShapes Go.ChangeShapes Go.ChangeAt
set_option maxRecDepth 100000

set_option maxHeartbeats 1000000 in
theorem contract (H : Type) (enc : TypeId × Value → H) (W : World) (base : Nat) (args : Array Value) (ds gs : List (DataW H)) (before : List MemPlace)
    (hval : ∀ (j : Nat) t v, Try.f3.params[j]? = some t → args[j]? = some v → Value.okWide Try.prog W .any base t v)
    (hW : DataW.Whole enc Try.prog Try.f3.params.toList Rows.planMoreSpec.vars false W args.toList ds gs before) :
    Calls Try.prog 3 args W fun e W' => ∃ v, e = .returned v ∧ Rows.planMoreSpec.post enc Try.prog Try.f3 false true false false W args v W' := by
  have hW' := hW
  obtain ⟨p, q, hA0, hV, -, -, -⟩ := hW
  obtain ⟨rfl, -⟩ := trodVars_none hV
  have hA : DataW.TrodAll enc Try.prog W 0 (fun _ => true) true [22, 3, 3] args.toList ds p := hA0
  obtain ⟨v0, vs0, d0, ds0, p0, q0, hargs, hds, -, h0, r0⟩ := trodAll_cons hA
  obtain ⟨v1, vs1, d1, ds1, p1, q1, rfl, rfl, -, h1, r1⟩ := trodAll_cons r0
  obtain ⟨v2, vs2, d2, ds2, p2, q2, rfl, rfl, -, h2, r2⟩ := trodAll_cons r1
  obtain ⟨rfl, rfl, -⟩ := trodAll_nil r2
  obtain rfl : args = #[v0, v1, v2] := by cases args; simp_all
  obtain ⟨sa0, len0, cap0, rfl, hl0, hI0⟩ := open_slice_ints (hval 0 22 v0 rfl rfl) h0 (fun _ => rfl)
  obtain ⟨n1, rfl, -, -, -⟩ := open_int (k := .i64) (by kernel_rfl) (hval 1 3 v1 rfl rfl) h1
  obtain ⟨n2, rfl, -, -, -⟩ := open_int (k := .i64) (by kernel_rfl) (hval 2 3 v2 rfl rfl) h2
  refine (pmore_walk sa0 len0 cap0 hl0 n1 n2 W hI0).mono fun e W' ⟨he, hb⟩ => ⟨_, he, ?_⟩
  subst hds
  exact law_post (tb := 4) hW' rfl rfl (by kernel_rfl) (fun t ht => by
    have : t = 22 ∨ t = 3 := by simpa using (show t ∈ [22, 3, 3] from ht)
    rcases this with rfl | rfl <;> exact ⟨by kernel_rfl, of_decide_eq_true (by kernel_rfl)⟩) ⟨rfl, rfl, rfl⟩ hb

theorem lifted (os : Os) (started : os.Started) (H : Type) (enc : TypeId × Value → H) :
    ReturnsInHanded {} Try.checked os 3 .any (Rows.planMoreSpec.pre6 enc Try.prog Try.f3 Rows.planMoreRow.domain false) (Rows.planMoreSpec.post enc Try.prog Try.f3 false true false false) := by
  refine returnsInHanded_of_change (C := Try.checked) own started (by kernel_rfl) Try.func3
    (ChangeSpec.witness6 (enc := enc) (C := Try.checked) false ⟨#[], #[.slice none 0 0, .int .i64 0, .int .i64 0], []⟩ 8 (by kernel_rfl) (by kernel_rfl) (by kernel_rfl) (by kernel_rfl)) ?_
  intro W base args ds gs before hval hW hcnd _
  exact contract H enc W base args ds gs before hval hW
theorem said : Rows.PlanMoreSaid :=
  OpenClaim.holds_of_wide 3 Try.f3 rfl rfl rfl rfl rfl rfl rfl ⟨rfl, rfl, rfl, rfl, rfl⟩ rfl rfl rfl rfl rfl (by kernel_rfl) Try.func3 (by kernel_rfl)
    (of_decide_eq_true (by kernel_rfl)) (by unfold Func.isWrapper; first | (rw [if_pos (by decide +kernel)]; kernel_rfl) | (rw [if_neg (by decide +kernel)]; exact ⟨rfl, rfl⟩))
    (fun os started H enc _ => lifted os started H enc)
end Go.Proofs.Ytdhnpjgnnfgklaa.planMore
