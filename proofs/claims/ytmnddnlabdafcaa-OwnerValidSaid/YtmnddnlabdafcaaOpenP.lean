/- Programs as an argument, opened: a slice of structs that hold slices. -/
import Derived.Test.YtmnddnlabdafcaaOpenR
import Derived.Test.YtmnddnlabdafcaaLawZ
import Derived.Test.YtmnddnlabdafcaaJ2
namespace Go.Proofs.Ytmnddnlabdafcaa
set_option linter.unusedSimpArgs false
set_option linter.unusedVariables false
open Go.RowKit Go.WideShapes Go.ChangeShapes Go.ChangeAt
set_option maxRecDepth 100000

section
variable {H : Type} {enc : TypeId × Value → H} {P : Program} {w : World} {base : Nat} {sp : Nat → Bool} {held : Bool}
/-- A slice whose elements are opened by a law of their own. -/
theorem open_els {t e : TypeId} (ht : P.underlying t = some (.slice e)) {k : Nat} (hz : P.cellsOf e = k) (hpos : 0 < k) {α : Type} [Inhabited α] (en : α → List Value) (X : α → Prop) (hlen : ∀ a, (en a).length = k)
    (hen : ∀ (n : Nat) (vs : List Value) (x : DataW H × List MemPlace), DataW.trod enc P w base sp held n e vs = some x → ∃ a, en a = vs ∧ X a)
    {fuel : Nat} {cs : List Value} {x : DataW H × List MemPlace} (h : DataW.trod enc P w base sp held fuel t cs = some x) :
    ∃ (sa : Option Addr) (cap : Nat) (xs : List α), cs = [.slice sa xs.length cap] ∧ (xs.length ≤ cap ∧ (sa = none → cap = 0)) ∧ cap ≤ maxLen ∧ Lies w w.heap.size sa k xs.length (fun j => en xs[j]!) ∧ ∀ a ∈ xs, X a := by
  rcases DataW.trod_slice ht h with ⟨rfl, -⟩ | ⟨a, len, cap, elems, rest, n, -, rfl, -, -, hl, hm, hlen2, hel, -⟩
  · exact ⟨none, 0, [], rfl, ⟨Nat.le_refl _, fun _ => rfl⟩, Nat.zero_le _, Lies.nil0, fun a ha => absurd ha List.not_mem_nil⟩
  · obtain ⟨xs, hxl, hxs⟩ := choose_list (α := α) (Q := fun i y => X y ∧ ∀ j u, (en y)[j]? = some u → w.cell? (a.add (i * k + j)) = some u) len fun i hi => by
      have h1 := hel i hi
      rw [List.getElem?_eq_getElem (by omega)] at h1
      obtain ⟨vs, h2, h3⟩ := Option.bind_eq_some_iff.1 h1
      obtain ⟨-, h4, h5⟩ := World.cells?_some h2
      obtain ⟨y, rfl, hX⟩ := hen n vs _ h3
      refine ⟨y, hX, fun j u hu => ?_⟩
      have hj : j < (en y).length := (List.getElem?_eq_some_iff.1 hu).1
      have h7 := h5 j (by omega)
      rw [hu, hz] at h7
      rw [← h7]
      congr 1
      exact (Addr.add_add a _ _).symm
    subst hxl
    refine ⟨some a, cap, xs, rfl, ⟨hl, fun e => by cases e⟩, hm, fun i hi => ?_, fun y hy => ?_⟩
    · obtain ⟨-, hc⟩ := hxs i hi
      obtain ⟨-, hc0⟩ := hxs 0 (by omega)
      obtain ⟨b, o, s⟩ := a
      obtain ⟨u0, hu0⟩ : ∃ u, (en xs[0]!)[0]? = some u := ⟨_, List.getElem?_eq_getElem (by rw [hlen]; exact hpos)⟩
      have hcell := hc0 0 u0 hu0
      have hadd0 : Addr.add ⟨b, o, s⟩ (0 * k + 0) = ⟨b, o, s⟩ := by simp [Addr.add]
      rw [hadd0] at hcell
      have hs : s = none := by
        unfold World.cell? at hcell
        split at hcell
        · cases s with
          | none => rfl
          | some _ => simp at hcell
        · cases hcell
      subst hs
      have hb : b < w.heap.size := by
        unfold World.cell? at hcell
        split at hcell
        · rename_i hh
          exact lt_of_heap hh
        · cases hcell
      refine ⟨b, o, rfl, hb, fun j u hu => ?_⟩
      have := hc j u hu
      rwa [Addr.add_lit, ← Nat.add_assoc] at this
    · obtain ⟨i, hi, rfl⟩ := List.getElem_of_mem hy
      have := (hxs i hi).1
      rwa [getElem!_pos xs i hi] at this
end
section
variable {H : Type} {enc : TypeId × Value → H} {w : World} {base : Nat} {sp : Nat → Bool} {held : Bool}
theorem open_page {n : Nat} {vs : List Value} {x : DataW H × List MemPlace} (h : DataW.trod enc Try.prog w base sp held n 37 vs = some x) : ∃ a, pgC a = vs ∧ True := by
  obtain ⟨a, _, -, rfl, b, _, -, rfl, c, _, rfl, e⟩ := kinds_trod 8 n 37 [.int .i64, .int .i64, .bool] vs x (by kernel_rfl) (by kernel_rfl) h
  rw [show _ = [] from e]
  exact ⟨⟨a, b, c⟩, rfl, trivial⟩
theorem open_int1 {n : Nat} {vs : List Value} {x : DataW H × List MemPlace} (h : DataW.trod enc Try.prog w base sp held n 3 vs = some x) : ∃ a, iC a = vs ∧ True := by
  obtain ⟨p, e0, -, -⟩ := DataW.trod_int (k := .i64) (by kernel_rfl) h
  exact ⟨p, e0.symm, trivial⟩
theorem open_program {n : Nat} {vs : List Value} {x : DataW H × List MemPlace} (h : DataW.trod enc Try.prog w base sp held n 31 vs = some x) : ∃ q, pvC q = vs ∧ PvAt w w.heap.size q := by
  obtain ⟨xs, m, -, -, hl, hxl, hall⟩ := DataW.trod_struct Try.underlying31 h
  have h0 := hall 0 _ rfl
  have h1 := hall 1 _ rfl
  have h2 := hall 2 _ rfl
  have h3 := hall 3 _ rfl
  have h4 := hall 4 _ rfl
  clear hall
  obtain ⟨x0, x1, x2, x3, x4, rfl⟩ : ∃ x0 x1 x2 x3 x4, xs = [x0, x1, x2, x3, x4] := by
    have h3 : xs.length = 5 := hxl
    match xs, h3 with
    | [a, b, c, d, e], _ => exact ⟨a, b, c, d, e, rfl⟩
  have z : Try.prog.cellsOf 31 = 5 := by kernel_rfl
  have z1 : Try.prog.cellsOf 3 = 1 := by kernel_rfl
  have z2 : Try.prog.cellsOf 4 = 1 := by kernel_rfl
  have z3 : Try.prog.cellsOf 29 = 1 := by kernel_rfl
  have z4 : Try.prog.cellsOf 22 = 1 := by kernel_rfl
  have hl5 : vs.length = 5 := hl.trans z
  replace h0 : DataW.trod enc Try.prog w base sp held m 3 (List.take (Try.prog.cellsOf 3) (List.drop 0 vs)) = some x0 := h0
  replace h1 : DataW.trod enc Try.prog w base sp held m 4 (List.take (Try.prog.cellsOf 4) (List.drop 1 vs)) = some x1 := h1
  replace h2 : DataW.trod enc Try.prog w base sp held m 4 (List.take (Try.prog.cellsOf 4) (List.drop 2 vs)) = some x2 := h2
  replace h3 : DataW.trod enc Try.prog w base sp held m 29 (List.take (Try.prog.cellsOf 29) (List.drop 3 vs)) = some x3 := h3
  replace h4 : DataW.trod enc Try.prog w base sp held m 22 (List.take (Try.prog.cellsOf 22) (List.drop 4 vs)) = some x4 := h4
  rw [z1] at h0
  rw [z2] at h1 h2
  rw [z3] at h3
  rw [z4] at h4
  obtain ⟨p, e0, -, -⟩ := DataW.trod_int (k := .i64) (by kernel_rfl) h0
  obtain ⟨t1, e1, -⟩ := DataW.trod_bool (by kernel_rfl) h1
  obtain ⟨t2, e2, -⟩ := DataW.trod_bool (by kernel_rfl) h2
  obtain ⟨sa, c, ys, e3, hc, -, hlies, -⟩ := open_els (e := 37) (by kernel_rfl) (k := 3) (by kernel_rfl) (by decide) pgC (fun _ => True) pgC_len (fun n vs x h => open_page h) h3
  obtain ⟨sb, d, zs, e4, hd, -, hlies2, -⟩ := open_els (e := 3) (by kernel_rfl) (k := 1) (by kernel_rfl) (by decide) iC (fun _ => True) iC_len (fun n vs x h => open_int1 h) h4
  refine ⟨⟨⟨p, t1, t2, ys, zs⟩, .slice sa ys.length c, .slice sb zs.length d⟩, ?_, ⟨sa, c, rfl, hc, hlies⟩, ⟨sb, d, rfl, hd, hlies2⟩⟩
  match vs, hl5 with
  | [c0, c1, c2, c3, c4], _ =>
    simp at e0 e1 e2 e3 e4
    subst e0 e1 e2 e3 e4
    rfl
theorem open_programs {r : Reach} {b0 : Nat} {v : Value} {d : DataW H} {ps : List MemPlace} (hval : Value.okWide Try.prog w r b0 25 v) (hd : DataW.Trod enc Try.prog w base sp held 25 v d ps) : ∃ l, Ps w w.heap.size v l ∧ l.length ≤ maxLen := by
  obtain ⟨a, len, cap, rfl⟩ := okWide_slice (e := 31) (by kernel_rfl) hval
  obtain ⟨fuel, hf⟩ := hd
  obtain ⟨sa, c, qs, e, hc, hm, hl, hx⟩ := open_els (e := 31) (by kernel_rfl) (k := 5) (by kernel_rfl) (by decide) pvC (fun q => PvAt w w.heap.size q) pvC_len (fun n vs x h => open_program h) hf
  simp [Value.cells] at e
  obtain ⟨rfl, rfl, rfl⟩ := e
  exact ⟨qs.map (·.p), ⟨qs, rfl, ⟨_, _, rfl, hc, hl⟩, hx⟩, by rw [List.length_map]; exact Nat.le_trans hc.1 hm⟩
end
end Go.Proofs.Ytmnddnlabdafcaa
