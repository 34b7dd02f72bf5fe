/- ref13.Inject, on anything. -/
import Derived.Test.YtplflpmkomeadaaDoorCeK
import Derived.Test.YtplflpmkomeadaaDoorXst
namespace Go.Proofs.YtplflpmkomeadaaDoor
set_option linter.unusedSimpArgs false
set_option linter.unusedVariables false
open Go.RowKit
set_option maxRecDepth 100000
attribute [local irreducible] wpX wpF Calls

def covM (M : Mm) (f : Fa) : List Nat := cvL M.s0 M.s1 M.s2 M.s3 M.s4 M.s5 f.k f.p0 f.p1 f.p2 f.p3 f.p4 f.p5 (szM M)
theorem covM_lt (M : Mm) (f : Fa) : ∀ i ∈ covM M f, i < szM M := fun i hi => List.mem_range.1 (List.mem_filter.1 hi).1
theorem by_set (bs : List Int) (i : Nat) (v : Int) : (bs.flatMap bC1).set i (.int .u8 v) = (bs.set i v).flatMap bC1 := by
  have h : ∀ l : List Int, l.flatMap bC1 = l.map (fun b => Value.int .u8 b) := fun l => by induction l with
    | nil => rfl
    | cons b l ih => rw [List.flatMap_cons, ih]; rfl
  rw [h, h, List.map_set]
def setFs (m : Mm) (fs : List Fa) : Mm := ⟨m.s0, m.s1, m.s2, m.s3, m.s4, m.s5, m.kd, m.dt, m.ck, m.fx, m.ws, fs⟩
/-- What Inject answers. -/
def injF (M : Mm) (f : Fa) : Mm × Int := if goodB M = true then (if vfF M (M.dt + M.ck) f = true then (if f.hd = true then (if f ∈ M.fs then (M, 8) else if M.fs.length = 64 then (M, 16) else (setFs M (M.fs ++ [f]), 0)) else (setWs M (flipL (M.dt + M.ck).toNat f.ch f.ms (covM M f) M.ws), 0)) else (M, 2)) else (M, 1)
theorem vf_ch {M : Mm} {n : Int} {f : Fa} (h : vfF M n f = true) : 0 ≤ f.ch ∧ f.ch < n := by
  unfold vfF vfAll vfB at h
  simp only [Bool.and_eq_true, decide_eq_true_eq] at h
  exact ⟨h.2.1.1.1.1.2, h.2.1.1.1.2⟩
theorem GoodWs.len_le {size n : Nat} {ws : List Wm} (h : GoodWs size n ws) : ws.length ≤ size := by
  have h1 : ∀ i (hi : i < ws.length), (i : Int) ≤ (ws[i]).ix := fun i => by
    induction i with
    | zero => intro hi; have := (h.rng _ (List.getElem_mem hi)).1; omega
    | succ i ih =>
      intro hi
      have h2 := ih (by omega)
      have h3 := List.pairwise_iff_getElem.1 h.up i (i + 1) (by omega) hi (by omega)
      omega
  by_cases h0 : ws.length = 0
  · omega
  · have h2 := h1 (ws.length - 1) (by omega)
    have h3 := (h.rng _ (List.getElem_mem (show ws.length - 1 < ws.length by omega))).2
    omega
end Go.Proofs.YtplflpmkomeadaaDoor
