/- Chapter 13, plain: stores and faults keep a memory valid, and its bytes bytes. -/
import Derived.Test.YtplflpmkomeadaaDoorCeM
namespace Go.Proofs.YtplflpmkomeadaaDoor
set_option linter.unusedSimpArgs false
set_option linter.unusedVariables false
open Go.RowKit

theorem GoodM.small {M : Mm} (h : GoodM M) (hz : szM M ≤ 1000) : SmallM M :=
  ⟨Nat.le_trans h.ws.len_le hz, Nat.le_trans h.fl (by decide), fun x hx => by have := h.ws.len x hx; have := codeB_rng h.co; omega⟩
theorem GoodM.setWs {M : Mm} (h : GoodM M) {vs : List Wm} (hv : GoodWs (szM M) (M.dt + M.ck).toNat vs) : GoodM (setWs M vs) := ⟨h.sv, h.co, h.fl, hv, h.fs, h.nd⟩
theorem GoodM.setFs {M : Mm} (h : GoodM M) {fs : List Fa} (h1 : fs.length ≤ 64) (h2 : ∀ f ∈ fs, f.hd = true ∧ vfF M (M.dt + M.ck) f = true) (h3 : fs.Nodup) : GoodM (setFs M fs) := ⟨h.sv, h.co, h1, h.ws, h2, h3⟩
theorem storeF_good {M : Mm} (h : GoodM M) (hb : BytesW M.ws) {m : Wm} (hm : ∀ b ∈ m.bs, ByteR b) : ∃ vs, (storeF M m).1 = setWs M vs ∧ GoodM (setWs M vs) ∧ BytesW vs := by
  have hM : M = setWs M M.ws := rfl
  unfold storeF
  rw [goodB_iff.2 h, if_pos rfl]
  split
  · rename_i hr
    split
    · rename_i hl
      exact ⟨_, rfl, h.setWs (h.ws.put hr hl), hb.put hm⟩
    · exact ⟨M.ws, hM, h, hb⟩
  · exact ⟨M.ws, hM, h, hb⟩
theorem injF_good {M : Mm} (h : GoodM M) (hb : BytesW M.ws) (f : Fa) : ∃ vs fs, (injF M f).1 = setFs (setWs M vs) fs ∧ GoodM (setFs (setWs M vs) fs) ∧ BytesW vs := by
  have hM : M = setFs (setWs M M.ws) M.fs := rfl
  unfold injF
  rw [goodB_iff.2 h, if_pos rfl]
  split
  · rename_i hvf
    split
    · rename_i hh
      split
      · exact ⟨M.ws, M.fs, hM, h, hb⟩
      · rename_i hm
        split
        · exact ⟨M.ws, M.fs, hM, h, hb⟩
        · rename_i h6
          refine ⟨M.ws, M.fs ++ [f], rfl, h.setFs ?_ ?_ ?_, hb⟩
          · rw [List.length_append]; have := h.fl; simp; omega
          · intro g hg
            rcases List.mem_append.1 hg with hg | hg
            · exact h.fs g hg
            · cases List.mem_singleton.1 hg; exact ⟨hh, hvf⟩
          · exact List.nodup_append.2 ⟨h.nd, List.nodup_cons.2 ⟨List.not_mem_nil, List.nodup_nil⟩, fun a ha b hb e => by cases List.mem_singleton.1 hb; exact hm (e ▸ ha)⟩
    · exact ⟨flipL (M.dt + M.ck).toNat f.ch f.ms (covM M f) M.ws, M.fs, rfl, h.setWs (h.ws.flip f.ch f.ms _ (covM_lt M f)), hb.flip f.ch f.ms _⟩
  · exact ⟨M.ws, M.fs, hM, h, hb⟩
theorem injF_fsl (M : Mm) (f : Fa) : (injF M f).1.fs.length ≤ M.fs.length + 1 := by
  unfold injF
  split
  · split
    · split
      · split
        · exact Nat.le_succ _
        · split
          · exact Nat.le_succ _
          · show (M.fs ++ [f]).length ≤ _; rw [List.length_append]; exact Nat.le_refl _
      · exact Nat.le_succ _
    · exact Nat.le_succ _
  · exact Nat.le_succ _
theorem size_le6 {s0 s1 s2 s3 s4 s5 : Int} (h : SV s0 s1 s2 s3 s4 s5) (h6 : s0 + s1 + s2 + s3 + s4 + s5 ≤ 6) : sizeN s0 s1 s2 s3 s4 s5 ≤ 64 := by
  have h1 := sizeN_yes h
  have h2 : (2 : Int) ^ (s0 + s1 + s2 + s3 + s4 + s5).toNat ≤ 2 ^ 6 := by
    have h3 : (2 : Nat) ^ (s0 + s1 + s2 + s3 + s4 + s5).toNat ≤ 2 ^ 6 := Nat.pow_le_pow_right (by decide) (by omega)
    exact_mod_cast h3
  have h4 : (2 : Int) ^ 6 = 64 := by decide
  omega
end Go.Proofs.YtplflpmkomeadaaDoor
