/- A cache and a line as arguments, opened. -/
import Derived.Test.YtfmcicmbehjdcaaK3
import Derived.Test.YtfmcicmbehjdcaaLrA
namespace Go.Proofs.Ytfmcicmbehjdcaa
set_option linter.unusedSimpArgs false
set_option linter.unusedVariables false
open Go.RowKit Go.WideShapes Go.ChangeShapes Go.ChangeAt
set_option maxRecDepth 100000

section
variable {H : Type} {enc : TypeId × Value → H} {P : Program} {w : World} {base : Nat} {sp : Nat → Bool} {held : Bool}
/-- A slice whose elements are opened by a law of their own. -/
theorem openE {t e : TypeId} (ht : P.underlying t = some (.slice e)) {k : Nat} (hz : P.cellsOf e = k) (hpos : 0 < k) {α : Type} [Inhabited α] (en : α → List Value) (X : α → Prop) (hlen : ∀ a, (en a).length = k)
    (hen : ∀ (n : Nat) (vs : List Value) (x : DataW H × List MemPlace), DataW.trod enc P w base sp held n e vs = some x → ∃ a, en a = vs ∧ X a)
    {fuel : Nat} {cs : List Value} {x : DataW H × List MemPlace} (h : DataW.trod enc P w base sp held fuel t cs = some x) :
    ∃ (sa : Option Addr) (cap : Nat) (xs : List α), cs = [.slice sa xs.length cap] ∧ (xs.length ≤ cap ∧ (sa = none → cap = 0)) ∧ cap ≤ maxLen ∧ Lies w w.heap.size sa k xs.length (fun j => en xs[j]!) ∧ ∀ a ∈ xs, X a := by
  rcases DataW.trod_slice ht h with ⟨rfl, -⟩ | ⟨a, len, cap, elems, rest, n, -, rfl, -, -, hl, hm, hlen2, hel, -⟩
  · exact ⟨none, 0, [], rfl, ⟨Nat.le_refl _, fun _ => rfl⟩, Nat.zero_le _, Lies.nil0, fun a ha => absurd ha List.not_mem_nil⟩
  · obtain ⟨xs, hxl, hxs⟩ := choose_list (α := α) (Q := fun i y => X y ∧ ∀ j u, (en y)[j]? = some u → w.cell? (a.add (i * k + j)) = some u) len fun i hi => by
      have h1 := hel i hi
      rw [List.getElem?_eq_getElem (by omega)] at h1
      obtain ⟨vs, h2, h3⟩ := Option.bind_eq_some_iff.1 h1
      obtain ⟨-, h4, h5⟩ := World.cells?_some h2
      obtain ⟨y, rfl, hX⟩ := hen n vs _ h3
      refine ⟨y, hX, fun j u hu => ?_⟩
      have hj : j < (en y).length := (List.getElem?_eq_some_iff.1 hu).1
      have h7 := h5 j (by omega)
      rw [hu, hz] at h7
      rw [← h7]
      congr 1
      exact (Addr.add_add a _ _).symm
    subst hxl
    refine ⟨some a, cap, xs, rfl, ⟨hl, fun e => by cases e⟩, hm, fun i hi => ?_, fun y hy => ?_⟩
    · obtain ⟨-, hc⟩ := hxs i hi
      obtain ⟨-, hc0⟩ := hxs 0 (by omega)
      obtain ⟨b, o, s⟩ := a
      obtain ⟨u0, hu0⟩ : ∃ u, (en xs[0]!)[0]? = some u := ⟨_, List.getElem?_eq_getElem (by rw [hlen]; exact hpos)⟩
      have hcell := hc0 0 u0 hu0
      have hadd0 : Addr.add ⟨b, o, s⟩ (0 * k + 0) = ⟨b, o, s⟩ := by simp [Addr.add]
      rw [hadd0] at hcell
      have hs : s = none := by
        unfold World.cell? at hcell
        split at hcell
        · cases s with
          | none => rfl
          | some _ => simp at hcell
        · cases hcell
      subst hs
      have hb : b < w.heap.size := by
        unfold World.cell? at hcell
        split at hcell
        · rename_i hh
          exact lt_of_heap hh
        · cases hcell
      refine ⟨b, o, rfl, hb, fun j u hu => ?_⟩
      have := hc j u hu
      rwa [Addr.add_lit, ← Nat.add_assoc] at this
    · obtain ⟨i, hi, rfl⟩ := List.getElem_of_mem hy
      have := (hxs i hi).1
      rwa [getElem!_pos xs i hi] at this
end
section
variable {H : Type} {enc : TypeId × Value → H} {w : World} {base : Nat} {sp : Nat → Bool} {held : Bool}
theorem openBy {n : Nat} {vs : List Value} {x : DataW H × List MemPlace} (h : DataW.trod enc Try.prog w base sp held n 5 vs = some x) : ∃ a, bC1 a = vs ∧ True := by
  obtain ⟨p, e0, -, -⟩ := DataW.trod_int (k := .u8) (by kernel_rfl) h
  exact ⟨p, e0.symm, trivial⟩
theorem openLn {n : Nat} {vs : List Value} {x : DataW H × List MemPlace} (h : DataW.trod enc Try.prog w base sp held n 35 vs = some x) : ∃ q : Lm × Sv, lnC q = vs ∧ BytesAt w q.2 q.1.bs := by
  obtain ⟨xs, m, -, -, hl, hxl, hall⟩ := DataW.trod_struct Try.underlying35 h
  have h0 := hall 0 _ rfl
  have h1 := hall 1 _ rfl
  have h2 := hall 2 _ rfl
  have h3 := hall 3 _ rfl
  clear hall
  obtain ⟨x0, x1, x2, x3, rfl⟩ : ∃ x0 x1 x2 x3, xs = [x0, x1, x2, x3] := by
    have h3 : xs.length = 4 := hxl
    match xs, h3 with
    | [a, b, c, d], _ => exact ⟨a, b, c, d, rfl⟩
  have z : Try.prog.cellsOf 35 = 4 := by kernel_rfl
  have z1 : Try.prog.cellsOf 3 = 1 := by kernel_rfl
  have z2 : Try.prog.cellsOf 4 = 1 := by kernel_rfl
  have z3 : Try.prog.cellsOf 33 = 1 := by kernel_rfl
  have hl4 : vs.length = 4 := hl.trans z
  replace h0 : DataW.trod enc Try.prog w base sp held m 3 (List.take (Try.prog.cellsOf 3) (List.drop 0 vs)) = some x0 := h0
  replace h1 : DataW.trod enc Try.prog w base sp held m 33 (List.take (Try.prog.cellsOf 33) (List.drop 1 vs)) = some x1 := h1
  replace h2 : DataW.trod enc Try.prog w base sp held m 4 (List.take (Try.prog.cellsOf 4) (List.drop 2 vs)) = some x2 := h2
  replace h3 : DataW.trod enc Try.prog w base sp held m 4 (List.take (Try.prog.cellsOf 4) (List.drop 3 vs)) = some x3 := h3
  rw [z1] at h0
  rw [z2] at h2 h3
  rw [z3] at h1
  obtain ⟨a0, e0, -, -⟩ := DataW.trod_int (k := .i64) (by kernel_rfl) h0
  obtain ⟨sa, c, ys, e1, hc, -, hlies, -⟩ := openE (e := 5) (by kernel_rfl) (k := 1) (by kernel_rfl) (by decide) bC1 (fun _ => True) bC1_len (fun n vs x h => openBy h) h1
  obtain ⟨b2, e2, -⟩ := DataW.trod_bool (by kernel_rfl) h2
  obtain ⟨b3, e3, -⟩ := DataW.trod_bool (by kernel_rfl) h3
  refine ⟨(⟨a0, ys, b2, b3⟩, ⟨sa, ys.length, c⟩), ?_, ⟨rfl, hc, hlies⟩⟩
  match vs, hl4 with
  | [c0, c1, c2, c3], _ =>
    simp at e0 e1 e2 e3
    subst e0 e1 e2 e3
    rfl
theorem openSl {n : Nat} {vs : List Value} {x : DataW H × List MemPlace} (h : DataW.trod enc Try.prog w base sp held n 37 vs = some x) : ∃ q : Sw, swC q = vs ∧ BytesAt w q.x q.s.ln.bs := by
  obtain ⟨xs, m, -, -, hl, hxl, hall⟩ := DataW.trod_struct Try.underlying37 h
  have h0 := hall 0 _ rfl
  have h1 := hall 1 _ rfl
  have h2 := hall 2 _ rfl
  clear hall
  obtain ⟨x0, x1, x2, rfl⟩ : ∃ x0 x1 x2, xs = [x0, x1, x2] := by
    have h3 : xs.length = 3 := hxl
    match xs, h3 with
    | [a, b, c], _ => exact ⟨a, b, c, rfl⟩
  have z : Try.prog.cellsOf 37 = 6 := by kernel_rfl
  have z1 : Try.prog.cellsOf 3 = 1 := by kernel_rfl
  have z2 : Try.prog.cellsOf 4 = 1 := by kernel_rfl
  have z3 : Try.prog.cellsOf 35 = 4 := by kernel_rfl
  have hl6 : vs.length = 6 := hl.trans z
  replace h0 : DataW.trod enc Try.prog w base sp held m 4 (List.take (Try.prog.cellsOf 4) (List.drop 0 vs)) = some x0 := h0
  replace h1 : DataW.trod enc Try.prog w base sp held m 3 (List.take (Try.prog.cellsOf 3) (List.drop 1 vs)) = some x1 := h1
  replace h2 : DataW.trod enc Try.prog w base sp held m 35 (List.take (Try.prog.cellsOf 35) (List.drop 2 vs)) = some x2 := h2
  rw [z2] at h0
  rw [z1] at h1
  rw [z3] at h2
  obtain ⟨b0, e0, -⟩ := DataW.trod_bool (by kernel_rfl) h0
  obtain ⟨a1, e1, -, -⟩ := DataW.trod_int (k := .i64) (by kernel_rfl) h1
  obtain ⟨⟨ln, y⟩, e2, hb⟩ := openLn h2
  refine ⟨⟨⟨b0, a1, ln⟩, y⟩, ?_, hb⟩
  match vs, hl6 with
  | [c0, c1, c2, c3, c4, c5], _ =>
    simp [lnC] at e0 e1 e2
    obtain ⟨rfl, rfl, rfl, rfl⟩ := e2
    subst e0 e1
    rfl
theorem open_cache {r : Reach} {b0 : Nat} {v : Value} {d : DataW H} {ps : List MemPlace} (hval : Value.okWide Try.prog w r b0 24 v) (hd : DataW.Trod enc Try.prog w base sp held 24 v d ps) :
    ∃ (a0 a1 a2 : Int) (sa : Option Addr) (c : Nat) (qs : List Sw), v = .agg #[.int .i64 a0, .int .i64 a1, .int .i64 a2, .slice sa qs.length c] ∧ (qs.length ≤ c ∧ (sa = none → c = 0)) ∧ qs.length ≤ maxLen ∧ (∀ j, j < qs.length → BytesAt w (qs[j]!).x (qs[j]!).s.ln.bs) ∧ Lies w w.heap.size sa 6 qs.length (fun j => swC qs[j]!) := by
  obtain ⟨cs, rfl⟩ := okWide_agg (.inl ⟨_, Try.underlying24⟩) hval
  obtain ⟨fuel, hf⟩ := hd
  obtain ⟨xs, m, -, -, hl, hxl, hall⟩ := DataW.trod_struct Try.underlying24 hf
  have h0 := hall 0 _ rfl
  have h1 := hall 1 _ rfl
  have h2 := hall 2 _ rfl
  have h3 := hall 3 _ rfl
  clear hall
  obtain ⟨x0, x1, x2, x3, rfl⟩ : ∃ x0 x1 x2 x3, xs = [x0, x1, x2, x3] := by
    have h3 : xs.length = 4 := hxl
    match xs, h3 with
    | [a, b, c, d], _ => exact ⟨a, b, c, d, rfl⟩
  have z : Try.prog.cellsOf 24 = 4 := by kernel_rfl
  have z1 : Try.prog.cellsOf 3 = 1 := by kernel_rfl
  have z3 : Try.prog.cellsOf 22 = 1 := by kernel_rfl
  have hl4 : cs.toList.length = 4 := hl.trans z
  replace h0 : DataW.trod enc Try.prog w base sp held m 3 (List.take (Try.prog.cellsOf 3) (List.drop 0 cs.toList)) = some x0 := h0
  replace h1 : DataW.trod enc Try.prog w base sp held m 3 (List.take (Try.prog.cellsOf 3) (List.drop 1 cs.toList)) = some x1 := h1
  replace h2 : DataW.trod enc Try.prog w base sp held m 3 (List.take (Try.prog.cellsOf 3) (List.drop 2 cs.toList)) = some x2 := h2
  replace h3 : DataW.trod enc Try.prog w base sp held m 22 (List.take (Try.prog.cellsOf 22) (List.drop 3 cs.toList)) = some x3 := h3
  rw [z1] at h0 h1 h2
  rw [z3] at h3
  obtain ⟨a0, e0, -, -⟩ := DataW.trod_int (k := .i64) (by kernel_rfl) h0
  obtain ⟨a1, e1, -, -⟩ := DataW.trod_int (k := .i64) (by kernel_rfl) h1
  obtain ⟨a2, e2, -, -⟩ := DataW.trod_int (k := .i64) (by kernel_rfl) h2
  obtain ⟨sa, c, ys, e3, hc, hm, hlies, hx⟩ := openE (e := 37) (by kernel_rfl) (k := 6) (by kernel_rfl) (by decide) swC (fun q : Sw => BytesAt w q.x q.s.ln.bs) swC_len (fun n vs x h => openSl h) h3
  refine ⟨a0, a1, a2, sa, c, ys, ?_, hc, Nat.le_trans hc.1 hm, fun j hj => hx _ (by rw [getElem!_pos ys j hj]; exact List.getElem_mem hj), hlies⟩
  have hcs : cs.toList = [.int .i64 a0, .int .i64 a1, .int .i64 a2, .slice sa ys.length c] := by
    generalize cs.toList = l at *
    match l, hl4 with
    | [c0, c1, c2, c3], _ =>
      simp at e0 e1 e2 e3
      subst e0 e1 e2 e3
      rfl
  have : cs = #[.int .i64 a0, .int .i64 a1, .int .i64 a2, .slice sa ys.length c] := by
    apply Array.toList_inj.1
    exact hcs
  rw [this]
theorem open_line {r : Reach} {b0 : Nat} {v : Value} {d : DataW H} {ps : List MemPlace} (hval : Value.okWide Try.prog w r b0 35 v) (hd : DataW.Trod enc Try.prog w base sp held 35 v d ps) :
    ∃ (m : Lm) (x : Sv), v = .agg #[.int .i64 m.ad, .slice x.sa x.n x.c, .bool m.d, .bool m.p] ∧ BytesAt w x m.bs := by
  obtain ⟨cs, rfl⟩ := okWide_agg (.inl ⟨_, Try.underlying35⟩) hval
  obtain ⟨fuel, hf⟩ := hd
  obtain ⟨⟨m, x⟩, e, hb⟩ := openLn hf
  refine ⟨m, x, ?_, hb⟩
  have : cs = #[.int .i64 m.ad, .slice x.sa x.n x.c, .bool m.d, .bool m.p] := by
    apply Array.toList_inj.1
    exact e.symm
  rw [this]
end
end Go.Proofs.Ytfmcicmbehjdcaa
