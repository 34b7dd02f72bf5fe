/- The statement CacheRuns, proved: whatever the input, the law's call answers true and leaves the input as it was. No condition. -/
import Derived.Test.YtfmcicmbehjdcaaLawZ
import Derived.Test.YtfmcicmbehjdcaaLrRw
namespace Go.Proofs.Ytfmcicmbehjdcaa.cacheRuns
set_option linter.unusedSimpArgs false
set_option linter.unusedVariables false
open Go.RowKit Go.WideShapes Go.ChangeShapes Go.ChangeAt
set_option maxRecDepth 100000

set_option maxHeartbeats 1000000 in
theorem contract (H : Type) (enc : TypeId × Value → H) (W : World) (base : Nat) (args : Array Value) (ds gs : List (DataW H)) (before : List MemPlace)
    (hval : ∀ (j : Nat) t v, Try.f4.params[j]? = some t → args[j]? = some v → Value.okWide Try.prog W .any base t v)
    (hW : DataW.Whole enc Try.prog Try.f4.params.toList Rows.cacheRunsSpec.vars false W args.toList ds gs before) :
    Calls Try.prog 4 args W fun e W' => ∃ v, e = .returned v ∧ Rows.cacheRunsSpec.post enc Try.prog Try.f4 false true false false W args v W' := by
  have hW' := hW
  obtain ⟨p, q, hA0, hV, -, -, -⟩ := hW
  obtain ⟨rfl, -⟩ := trodVars_none hV
  have hA : DataW.TrodAll enc Try.prog W 0 (fun _ => true) true [25] args.toList ds p := hA0
  obtain ⟨v0, vs0, d0, ds0, p0, q0, hargs, hds, -, h0, r0⟩ := trodAll_cons hA
  obtain ⟨rfl, rfl, -⟩ := trodAll_nil r0
  obtain rfl : args = #[v0] := by cases args; simp_all
  obtain ⟨sa0, len0, cap0, rfl, hl0, hI0⟩ := open_slice_ints (hval 0 25 v0 rfl rfl) h0 (fun _ => rfl)
  refine (cruns_walk sa0 len0 cap0 hl0 W hI0).mono fun e W' ⟨he, hb⟩ => ⟨_, he, ?_⟩
  subst hds
  exact law_post (tb := 4) hW' rfl rfl (by kernel_rfl) (fun t ht => by
    have : t = 25 := by simpa using (show t ∈ [25] from ht)
    rcases this with rfl <;> exact ⟨by kernel_rfl, of_decide_eq_true (by kernel_rfl)⟩) ⟨rfl, rfl, rfl⟩ hb

theorem lifted (os : Os) (started : os.Started) (H : Type) (enc : TypeId × Value → H) :
    ReturnsInHanded {} Try.checked os 4 .any (Rows.cacheRunsSpec.pre6 enc Try.prog Try.f4 Rows.cacheRunsRow.domain false) (Rows.cacheRunsSpec.post enc Try.prog Try.f4 false true false false) := by
  refine returnsInHanded_of_change (C := Try.checked) own started (by kernel_rfl) Try.func4
    (ChangeSpec.witness6 (enc := enc) (C := Try.checked) false ⟨#[], #[.slice none 0 0], []⟩ 8 (by kernel_rfl) (by kernel_rfl) (by kernel_rfl) (by kernel_rfl)) ?_
  intro W base args ds gs before hval hW hcnd _
  exact contract H enc W base args ds gs before hval hW
theorem said : Rows.CacheRunsSaid :=
  OpenClaim.holds_of_wide 4 Try.f4 rfl rfl rfl rfl rfl rfl rfl ⟨rfl, rfl, rfl, rfl, rfl⟩ rfl rfl rfl rfl rfl (by kernel_rfl) Try.func4 (by kernel_rfl)
    (of_decide_eq_true (by kernel_rfl)) (by unfold Func.isWrapper; first | (rw [if_pos (by decide +kernel)]; kernel_rfl) | (rw [if_neg (by decide +kernel)]; exact ⟨rfl, rfl⟩))
    (fun os started H enc _ => lifted os started H enc)
end Go.Proofs.Ytfmcicmbehjdcaa.cacheRuns
