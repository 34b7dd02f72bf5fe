/- A memory, a word and a fault as arguments, opened; how long their bytes are, by the reach. -/
import Derived.Test.YtplflpmkomeadaaDoorCeA
import Derived.Test.YtplflpmkomeadaaDoorK3
import Derived.Test.YtplflpmkomeadaaDoorOpen
import Derived.Test.YtplflpmkomeadaaDoorOpenR
namespace Go.Proofs.YtplflpmkomeadaaDoor
set_option linter.unusedSimpArgs false
set_option linter.unusedVariables false
open Go.RowKit Go.WideShapes Go.ChangeShapes Go.ChangeAt
set_option maxRecDepth 100000

def Heavy {H : Type} (P : Program) (t : TypeId) (d : DataW H) : Prop := ∀ n ∈ DataW.weights P t d, n ≤ reachBytes
theorem mem_weightsAll {H : Type} {P : Program} {e : TypeId} : ∀ {ds : List (DataW H)} {d : DataW H} {n : Nat}, d ∈ ds → n ∈ DataW.weights P e d → n ∈ DataW.weightsAll P e ds
  | d :: r, d', n, h, hn => by
    show n ∈ DataW.weights P e d ++ DataW.weightsAll P e r
    rcases List.mem_cons.1 h with rfl | h
    · exact List.mem_append_left _ hn
    · exact List.mem_append_right _ (mem_weightsAll h hn)
theorem mem_weightsEach {H : Type} {P : Program} : ∀ {ts : List TypeId} {ds : List (DataW H)} {i : Nat} {t : TypeId} {d : DataW H} {n : Nat}, ts[i]? = some t → ds[i]? = some d → n ∈ DataW.weights P t d → n ∈ DataW.weightsEach P ts ds
  | t :: ts, d :: r, 0, t', d', n, h1, h2, hn => by
    obtain rfl : t = t' := by simpa using h1
    obtain rfl : d = d' := by simpa using h2
    exact List.mem_append_left _ hn
  | t :: ts, d :: r, i + 1, t', d', n, h1, h2, hn => by
    show n ∈ DataW.weights P t d ++ DataW.weightsEach P ts r
    exact List.mem_append_right _ (mem_weightsEach (i := i) (by simpa using h1) (by simpa using h2) hn)
  | [], ds, i, t, d, n, h1, h2, hn => by simp at h1
  | t :: ts, [], i, t', d, n, h1, h2, hn => by simp at h2

section
variable {H : Type} {enc : TypeId × Value → H} {P : Program} {w : World} {base : Nat} {sp : Nat → Bool} {held : Bool}
/-- A slice whose elements are opened by a law of their own; what is heavy about them is bounded. -/
theorem openEW {t e : TypeId} (ht : P.underlying t = some (.slice e)) {k : Nat} (hz : P.cellsOf e = k) (hpos : 0 < k) {α : Type} [Inhabited α] (en : α → List Value) (X : α → Prop) (hlen : ∀ a, (en a).length = k)
    (hen : ∀ (n : Nat) (vs : List Value) (x : DataW H × List MemPlace), DataW.trod enc P w base sp held n e vs = some x → Heavy P e x.1 → ∃ a, en a = vs ∧ X a)
    {fuel : Nat} {cs : List Value} {x : DataW H × List MemPlace} (h : DataW.trod enc P w base sp held fuel t cs = some x) (hh : Heavy P t x.1) :
    ∃ (sa : Option Addr) (cap : Nat) (xs : List α), cs = [.slice sa xs.length cap] ∧ (xs.length ≤ cap ∧ (sa = none → cap = 0)) ∧ cap ≤ maxLen ∧ xs.length * P.bytesOf e ≤ reachBytes ∧ Lies w w.heap.size sa k xs.length (fun j => en xs[j]!) ∧ ∀ a ∈ xs, X a := by
  rcases DataW.trod_slice ht h with ⟨rfl, -⟩ | ⟨a, len, cap, elems, rest, n, -, rfl, hx, -, hl, hm, hlen2, hel, -⟩
  · exact ⟨none, 0, [], rfl, ⟨Nat.le_refl _, fun _ => rfl⟩, Nat.zero_le _, by simp, Lies.nil0, fun a ha => absurd ha List.not_mem_nil⟩
  · rw [hx] at hh
    have hW : ∀ n ∈ ((elems.map (·.1)).length * P.bytesOf e + (rest.map (·.1)).length * P.bytesOf e) :: (DataW.weightsAll P e (elems.map (·.1)) ++ DataW.weightsAll P e (rest.map (·.1))), n ≤ reachBytes := by
      have h9 := hh
      unfold Heavy at h9
      unfold DataW.weights at h9
      rw [ht] at h9
      simp only [Nat.add_mul] at h9
      exact h9
    have hlb : len * P.bytesOf e ≤ reachBytes := by
      have := hW _ List.mem_cons_self
      rw [List.length_map, hlen2] at this
      omega
    have hel2 : ∀ d ∈ elems.map (·.1), Heavy P e d := fun d hd n hn => hW n (List.mem_cons_of_mem _ (List.mem_append_left _ (mem_weightsAll hd hn)))
    obtain ⟨xs, hxl, hxs⟩ := choose_list (α := α) (Q := fun i y => X y ∧ ∀ j u, (en y)[j]? = some u → w.cell? (a.add (i * k + j)) = some u) len fun i hi => by
      have h1 := hel i hi
      rw [List.getElem?_eq_getElem (by omega)] at h1
      obtain ⟨vs, h2, h3⟩ := Option.bind_eq_some_iff.1 h1
      obtain ⟨-, h4, h5⟩ := World.cells?_some h2
      obtain ⟨y, rfl, hX⟩ := hen n vs _ h3 (hel2 _ (List.mem_map.2 ⟨_, List.getElem_mem (by omega), rfl⟩))
      refine ⟨y, hX, fun j u hu => ?_⟩
      have hj : j < (en y).length := (List.getElem?_eq_some_iff.1 hu).1
      have h7 := h5 j (by omega)
      rw [hu, hz] at h7
      rw [← h7]
      congr 1
      exact (Addr.add_add a _ _).symm
    subst hxl
    refine ⟨some a, cap, xs, rfl, ⟨hl, fun e => by cases e⟩, hm, hlb, fun i hi => ?_, fun y hy => ?_⟩
    · obtain ⟨-, hc⟩ := hxs i hi
      obtain ⟨-, hc0⟩ := hxs 0 (by omega)
      obtain ⟨b, o, s⟩ := a
      obtain ⟨u0, hu0⟩ : ∃ u, (en xs[0]!)[0]? = some u := ⟨_, List.getElem?_eq_getElem (by rw [hlen]; exact hpos)⟩
      have hcell := hc0 0 u0 hu0
      have hadd0 : Addr.add ⟨b, o, s⟩ (0 * k + 0) = ⟨b, o, s⟩ := by simp [Addr.add]
      rw [hadd0] at hcell
      have hs : s = none := by
        unfold World.cell? at hcell
        split at hcell
        · cases s with
          | none => rfl
          | some _ => simp at hcell
        · cases hcell
      subst hs
      have hb : b < w.heap.size := by
        unfold World.cell? at hcell
        split at hcell
        · rename_i hh
          exact lt_of_heap hh
        · cases hcell
      refine ⟨b, o, rfl, hb, fun j u hu => ?_⟩
      have := hc j u hu
      rwa [Addr.add_lit, ← Nat.add_assoc] at this
    · obtain ⟨i, hi, rfl⟩ := List.getElem_of_mem hy
      have := (hxs i hi).1
      rwa [getElem!_pos xs i hi] at this
end
section
variable {H : Type} {enc : TypeId × Value → H} {w : World} {base : Nat} {sp : Nat → Bool} {held : Bool}
theorem heavy_part {P : Program} {t : TypeId} {fs : Array Field} (ht : P.underlying t = some (.struct fs)) {parts : List (DataW H)} (h : Heavy P t (.agg parts)) {i : Nat} {f : Field} {d : DataW H} (hf : fs[i]? = some f) (hd : parts[i]? = some d) : Heavy P f.type d := fun n hn => h n (by
  unfold DataW.weights
  rw [ht]
  exact mem_weightsEach (i := i) (by rw [List.getElem?_map, Array.getElem?_toList, hf]; rfl) hd hn)
theorem openBy13 {n : Nat} {vs : List Value} {x : DataW H × List MemPlace} (h : DataW.trod enc Tryd.prog w base sp held n 5 vs = some x) : ∃ a, bC1 a = vs ∧ True := by
  obtain ⟨p, e0, -, -⟩ := DataW.trod_int (k := .u8) (by kernel_rfl) h
  exact ⟨p, e0.symm, trivial⟩
def ShortB (n : Nat) : Prop := n ≤ 140737488355328
theorem openCw {n : Nat} {vs : List Value} {x : DataW H × List MemPlace} (h : DataW.trod enc Tryd.prog w base sp held n 50 vs = some x) (hh : Heavy Tryd.prog 50 x.1) : ∃ q : Wm × Sv, cwC q = vs ∧ BytesAt w q.2 q.1.bs ∧ ShortB q.1.bs.length := by
  obtain ⟨xs, m, -, hx, hl, hxl, hall⟩ := DataW.trod_struct Tryd.underlying50 h
  have h0 := hall 0 _ rfl
  have h1 := hall 1 _ rfl
  have h2 := hall 2 _ rfl
  clear hall
  obtain ⟨x0, x1, x2, rfl⟩ : ∃ x0 x1 x2, xs = [x0, x1, x2] := by
    have h3 : xs.length = 3 := hxl
    match xs, h3 with
    | [a, b, c], _ => exact ⟨a, b, c, rfl⟩
  rw [hx] at hh
  have hh1 : Heavy Tryd.prog 48 x1.1 := heavy_part (i := 1) Tryd.underlying50 hh rfl rfl
  have z : Tryd.prog.cellsOf 50 = 3 := by kernel_rfl
  have z1 : Tryd.prog.cellsOf 3 = 1 := by kernel_rfl
  have z2 : Tryd.prog.cellsOf 4 = 1 := by kernel_rfl
  have z3 : Tryd.prog.cellsOf 48 = 1 := by kernel_rfl
  have hl3 : vs.length = 3 := hl.trans z
  replace h0 : DataW.trod enc Tryd.prog w base sp held m 3 (List.take (Tryd.prog.cellsOf 3) (List.drop 0 vs)) = some x0 := h0
  replace h1 : DataW.trod enc Tryd.prog w base sp held m 48 (List.take (Tryd.prog.cellsOf 48) (List.drop 1 vs)) = some x1 := h1
  replace h2 : DataW.trod enc Tryd.prog w base sp held m 4 (List.take (Tryd.prog.cellsOf 4) (List.drop 2 vs)) = some x2 := h2
  rw [z1] at h0
  rw [z2] at h2
  rw [z3] at h1
  obtain ⟨a0, e0, -, -⟩ := DataW.trod_int (k := .i64) (by kernel_rfl) h0
  obtain ⟨sa, c, ys, e1, hc, -, hw, hlies, -⟩ := openEW (e := 5) (by kernel_rfl) (k := 1) (by kernel_rfl) (by decide) bC1 (fun _ => True) bC1_len (fun n vs x h _ => openBy13 h) h1 hh1
  obtain ⟨b2, e2, -⟩ := DataW.trod_bool (by kernel_rfl) h2
  refine ⟨(⟨a0, ys, b2⟩, ⟨sa, ys.length, c⟩), ?_, ⟨rfl, hc, hlies⟩, ?_⟩
  · match vs, hl3 with
    | [c0, c1, c2], _ =>
      simp at e0 e1 e2
      subst e0 e1 e2
      rfl
  · have : Tryd.prog.bytesOf 5 = 1 := by kernel_rfl
    rw [this] at hw
    unfold reachBytes at hw
    show ys.length ≤ 140737488355328
    omega
theorem agg_of_list {vs : List Value} {cs : Array Value} (h : cs.toList = vs) : cs = vs.toArray := by
  apply Array.toList_inj.1
  rw [h]
theorem openFa {n : Nat} {vs : List Value} {x : DataW H × List MemPlace} (h : DataW.trod enc Tryd.prog w base sp held n 38 vs = some x) : ∃ f : Fa, cfC f = vs ∧ True := by
  obtain ⟨k, _, -, rfl, p0, _, -, rfl, p1, _, -, rfl, p2, _, -, rfl, p3, _, -, rfl, p4, _, -, rfl, p5, _, -, rfl, ch, _, -, rfl, ms, _, -, rfl, vl, _, -, rfl, hd, _, rfl, e⟩ := kinds_trod 8 n 38 [.int .i64, .int .i64, .int .i64, .int .i64, .int .i64, .int .i64, .int .i64, .int .i64, .int .u8, .int .u8, .bool] vs x (by kernel_rfl) (by kernel_rfl) h
  rw [show _ = [] from e]
  exact ⟨⟨k, p0, p1, p2, p3, p4, p5, ch, ms, vl, hd⟩, rfl, trivial⟩
theorem openShape {n : Nat} {vs : List Value} {x : DataW H × List MemPlace} (h : DataW.trod enc Tryd.prog w base sp held n 28 vs = some x) : ∃ p0 p1 p2 p3 p4 p5, vs = [.int .i64 p0, .int .i64 p1, .int .i64 p2, .int .i64 p3, .int .i64 p4, .int .i64 p5] := by
  obtain ⟨p0, _, -, rfl, p1, _, -, rfl, p2, _, -, rfl, p3, _, -, rfl, p4, _, -, rfl, p5, _, -, rfl, e⟩ := kinds_trod 8 n 28 [.int .i64, .int .i64, .int .i64, .int .i64, .int .i64, .int .i64] vs x (by kernel_rfl) (by kernel_rfl) h
  rw [show _ = [] from e]
  exact ⟨p0, p1, p2, p3, p4, p5, rfl⟩
theorem openCode {n : Nat} {vs : List Value} {x : DataW H × List MemPlace} (h : DataW.trod enc Tryd.prog w base sp held n 30 vs = some x) : ∃ p0 p1 p2 p3, vs = [.int .i64 p0, .int .i64 p1, .int .i64 p2, .int .i64 p3] := by
  obtain ⟨p0, _, -, rfl, p1, _, -, rfl, p2, _, -, rfl, p3, _, -, rfl, e⟩ := kinds_trod 8 n 30 [.int .i64, .int .i64, .int .i64, .int .i64] vs x (by kernel_rfl) (by kernel_rfl) h
  rw [show _ = [] from e]
  exact ⟨p0, p1, p2, p3, rfl⟩
theorem open_fault13 {r : Reach} {b0 : Nat} {v : Value} {d : DataW H} {ps : List MemPlace} (hval : Value.okWide Tryd.prog w r b0 38 v) (hd : DataW.Trod enc Tryd.prog w base sp held 38 v d ps) : ∃ f : Fa, v = cfV f := by
  obtain ⟨cs, rfl⟩ := okWide_agg (.inl ⟨_, Tryd.underlying38⟩) hval
  obtain ⟨fuel, hf⟩ := hd
  obtain ⟨f, e, -⟩ := openFa hf
  exact ⟨f, by rw [agg_of_list (show cs.toList = _ from e.symm)]; rfl⟩
theorem open_word13 {r : Reach} {b0 : Nat} {v : Value} {d : DataW H} {ps : List MemPlace} (hval : Value.okWide Tryd.prog w r b0 50 v) (hd : DataW.Trod enc Tryd.prog w base sp held 50 v d ps) (hh : Heavy Tryd.prog 50 d) :
    ∃ (m : Wm) (x : Sv), v = cwV m x ∧ BytesAt w x m.bs ∧ ShortB m.bs.length := by
  obtain ⟨cs, rfl⟩ := okWide_agg (.inl ⟨_, Tryd.underlying50⟩) hval
  obtain ⟨fuel, hf⟩ := hd
  obtain ⟨⟨m, x⟩, e, hb, hs⟩ := openCw hf hh
  exact ⟨m, x, by rw [agg_of_list (show cs.toList = _ from e.symm)]; rfl, hb, hs⟩
theorem open_memory13 {r : Reach} {b0 : Nat} {v : Value} {d : DataW H} {ps : List MemPlace} (hval : Value.okWide Tryd.prog w r b0 34 v) (hd : DataW.Trod enc Tryd.prog w base sp held 34 v d ps) (hh : Heavy Tryd.prog 34 d) :
    ∃ (M : Mm) (x y : Sv), v = meV M x y ∧ MeAt w x y M ∧ ∀ m ∈ M.ws, ShortB m.bs.length := by
  obtain ⟨cs, rfl⟩ := okWide_agg (.inl ⟨_, Tryd.underlying34⟩) hval
  obtain ⟨fuel, hf⟩ := hd
  obtain ⟨xs, m, -, hx, hl, hxl, hall⟩ := DataW.trod_struct Tryd.underlying34 hf
  have h0 := hall 0 _ rfl
  have h1 := hall 1 _ rfl
  have h2 := hall 2 _ rfl
  have h3 := hall 3 _ rfl
  clear hall
  obtain ⟨x0, x1, x2, x3, rfl⟩ : ∃ x0 x1 x2 x3, xs = [x0, x1, x2, x3] := by
    have h3 : xs.length = 4 := hxl
    match xs, h3 with
    | [a, b, c, d], _ => exact ⟨a, b, c, d, rfl⟩
  obtain ⟨rfl, -⟩ := Prod.mk.inj hx
  have hh2 : Heavy Tryd.prog 31 x2.1 := heavy_part (i := 2) Tryd.underlying34 hh rfl rfl
  have hh3 : Heavy Tryd.prog 32 x3.1 := heavy_part (i := 3) Tryd.underlying34 hh rfl rfl
  have z : Tryd.prog.cellsOf 34 = 12 := by kernel_rfl
  have z0 : Tryd.prog.cellsOf 28 = 6 := by kernel_rfl
  have z1 : Tryd.prog.cellsOf 30 = 4 := by kernel_rfl
  have z2 : Tryd.prog.cellsOf 31 = 1 := by kernel_rfl
  have z3 : Tryd.prog.cellsOf 32 = 1 := by kernel_rfl
  have hl12 : cs.toList.length = 12 := hl.trans z
  replace h0 : DataW.trod enc Tryd.prog w base sp held m 28 (List.take (Tryd.prog.cellsOf 28) (List.drop 0 cs.toList)) = some x0 := h0
  replace h1 : DataW.trod enc Tryd.prog w base sp held m 30 (List.take (Tryd.prog.cellsOf 30) (List.drop 6 cs.toList)) = some x1 := h1
  replace h2 : DataW.trod enc Tryd.prog w base sp held m 31 (List.take (Tryd.prog.cellsOf 31) (List.drop 10 cs.toList)) = some x2 := h2
  replace h3 : DataW.trod enc Tryd.prog w base sp held m 32 (List.take (Tryd.prog.cellsOf 32) (List.drop 11 cs.toList)) = some x3 := h3
  rw [z0] at h0
  rw [z1] at h1
  rw [z2] at h2
  rw [z3] at h3
  obtain ⟨s0, s1, s2, s3, s4, s5, e0⟩ := openShape h0
  obtain ⟨kd, dt, ck, fx, e1⟩ := openCode h1
  obtain ⟨sa, c, qs, e2, hc, -, -, hlies, hX⟩ := openEW (e := 50) (by kernel_rfl) (k := 3) (by kernel_rfl) (by decide) cwC (fun q : Wm × Sv => BytesAt w q.2 q.1.bs ∧ ShortB q.1.bs.length) cwC_len (fun n vs x h hh => openCw h hh) h2 hh2
  obtain ⟨ta, e, fs, e3, hd, -, -, hlies2, -⟩ := openEW (e := 38) (by kernel_rfl) (k := 11) (by kernel_rfl) (by decide) cfC (fun _ => True) cfC_len (fun n vs x h _ => openFa h) h3 hh3
  refine ⟨⟨s0, s1, s2, s3, s4, s5, kd, dt, ck, fx, qs.map Prod.fst, fs⟩, ⟨sa, qs.length, c⟩, ⟨ta, fs.length, e⟩, ?_, ⟨⟨qs, rfl, rfl, hc, hlies, fun q hq => (hX q hq).1⟩, rfl, hd, hlies2⟩, fun m hm => ?_⟩
  · have hcs : cs.toList = [.int .i64 s0, .int .i64 s1, .int .i64 s2, .int .i64 s3, .int .i64 s4, .int .i64 s5, .int .i64 kd, .int .i64 dt, .int .i64 ck, .int .i64 fx, .slice sa qs.length c, .slice ta fs.length e] := by
      generalize cs.toList = l at *
      match l, hl12 with
      | [c0, c1, c2, c3, c4, c5, c6, c7, c8, c9, c10, c11], _ =>
        simp at e0 e1 e2 e3
        obtain ⟨rfl, rfl, rfl, rfl, rfl, rfl⟩ := e0
        obtain ⟨rfl, rfl, rfl, rfl⟩ := e1
        subst e2 e3
        rfl
    rw [agg_of_list hcs]; rfl
  · obtain ⟨q, hq, rfl⟩ := List.mem_map.1 hm
    exact (hX q hq).2
end
end Go.Proofs.YtplflpmkomeadaaDoor
