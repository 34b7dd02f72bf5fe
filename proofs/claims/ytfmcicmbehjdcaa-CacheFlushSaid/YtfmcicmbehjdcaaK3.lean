/- Several texts in one: LawZ, Open, OpenR. -/
import Derived.Test.YtfmcicmbehjdcaaK1
import Derived.WalkKit
import Derived.ProofKit
import Derived.OpenShut
import Derived.Below
import Derived.Deep.DeepHandedRow
import Derived.WideShapes
import Derived.Test.YtfmcicmbehjdcaaK2
/- What every one of these statements ends with: a law's call that answers true and turns nothing of what was there pays the row's 'post'; the arguments opened. (For rows that list no variable.) -/
namespace Go.Proofs.Ytfmcicmbehjdcaa
set_option linter.unusedSimpArgs false
set_option linter.unusedVariables false
open Go.RowKit Go.WideShapes Go.ChangeShapes Go.ChangeAt
set_option maxRecDepth 100000

section
variable {H : Type} {enc : TypeId × Value → H} {P : Program}
/-- The row's last step, of a world of which 'Below' alone is known (after the kit's paper). -/
theorem post_of_below {f : Func} {s : ChangeSpec} {apart fresh handsOn again : Bool} {W W' : World} {args : Array Value} {v : Value} {ds gs : List (DataW H)} {before pa pv : List MemPlace}
    (hW : DataW.Whole enc P f.params.toList s.vars apart W args.toList ds gs before)
    (hres : ∀ (b : Nat) (sp : Nat → Bool) (hd : Bool), DataW.TrodAll enc P W' b sp hd f.resultTypes.toList (v.resultList f.resultTypes.size) (s.fn H (ds ++ gs)).results [])
    (hargs : ∀ sp : Nat → Bool, (∀ p ∈ before, sp p.block = true) → DataW.TrodAll enc P W' 0 sp true f.params.toList args.toList (s.fn H (ds ++ gs)).args pa)
    (hvars : ∀ sp : Nat → Bool, (∀ p ∈ before, sp p.block = true) → DataW.TrodVars enc P W' sp s.vars (s.fn H (ds ++ gs)).vars pv)
    (hps : before = pa ++ pv) (hb : Below W.heap.size W W')
    (hok : ∀ (j : Nat) (t : TypeId) (r : Value), f.resultTypes[j]? = some t → (v.resultList f.resultTypes.size)[j]? = some r → Value.okWide P W' .any 0 t r) :
    s.post enc P f apart fresh handsOn again W args v W' := by
  have hlt : ∀ p ∈ before, p.block < W.heap.size := fun p hp => hW.lt p hp
  have hold : ∀ p ∈ before, (fun b => decide (b < W.heap.size)) p.block = true := fun p hp => by simpa using hlt p hp
  refine ⟨ds, gs, before, [], pa, pv, hW, hres _ _ _, hargs _ hold, hvars _ hold, World.keptBut_mono (fun p hp => ⟨hp, ?_⟩) (hb.frame (· ∈ before)), fun _ => ?_⟩
  · rw [hps, List.mem_append] at hp
    exact Or.inr hp
  · obtain ⟨_, _, _, _, _, hz, hn⟩ := hW
    refine ⟨hok, _, _, ([] ++ pa) ++ pv, ⟨[] ++ pa, pv, trodAll_append (hargs _ (fun _ _ => rfl)) (hres _ _ _), hvars _ (fun _ _ => rfl), rfl, ?_, ?_⟩, ?_⟩
    · intro b off hp
      have hin : MemPlace.cell b off ∈ before := by rw [hps]; simpa using hp
      rw [hb.frozen (hlt _ hin)]
      exact hz b off hin
    · intro ha
      have := hn ha
      rw [hps] at this
      simpa using this
    · intro p hp _
      rw [hps]
      simpa using hp

/-- All arguments read as they did. -/
theorem trodAll_below (hl : laidOutB P = true) {W W' : World} (hb : Below W.heap.size W W') {sp : Nat → Bool} (base : Nat) :
    ∀ (ts : List TypeId) (vs : List Value) (ds : List (DataW H)) (ps : List MemPlace), (∀ t ∈ ts, P.readableRec t = true ∧ t < P.types.size) →
      (∀ x ∈ ps, x.block < W.heap.size) → (∀ x ∈ ps, sp x.block = true) → DataW.TrodAll enc P W base (fun _ => true) true ts vs ds ps → DataW.TrodAll enc P W' base sp true ts vs ds ps
  | [], [], [], ps, _, _, _, h => h
  | t :: ts, v :: vs, d :: ds, ps, hr, hlt, hsp, h => by
    obtain ⟨p, q, h1, h2, rfl⟩ := h
    refine ⟨p, q, ?_, trodAll_below hl hb base ts vs ds q (fun t ht => hr t (by simp [ht])) (fun x hx => hlt x (by simp [hx])) (fun x hx => hsp x (by simp [hx])) h2, rfl⟩
    exact WideElems.Trod_stays hl (hr t (by simp)).1 (hr t (by simp)).2 h1 (fun x hx => hb.same (hlt x (by simp [hx]))) (fun x hx => hsp x (by simp [hx]))
  | [], _ :: _, _, _, _, _, _, h => by simp [DataW.TrodAll] at h
  | [], [], _ :: _, _, _, _, _, h => by simp [DataW.TrodAll] at h
  | _ :: _, [], _, _, _, _, _, h => by simp [DataW.TrodAll] at h
  | _ :: _, _ :: _, [], _, _, _, _, h => by simp [DataW.TrodAll] at h
end

/-- A law that answers true: its row's 'post'. -/
theorem law_post {H : Type} {enc : TypeId × Value → H} {f : Func} {s : ChangeSpec} {apart fresh handsOn again : Bool} {W W' : World} {args : Array Value} {ds gs : List (DataW H)} {before : List MemPlace} {tb : TypeId}
    (hW : DataW.Whole enc Try.prog f.params.toList s.vars apart W args.toList ds gs before) (hv : s.vars = [])
    (hr : f.resultTypes = #[tb]) (htb : Try.prog.underlying tb = some .bool) (hp : ∀ t ∈ f.params.toList, Try.prog.readableRec t = true ∧ t < Try.prog.types.size)
    (hs : (s.fn H (ds ++ gs)).results = [.lit (.bool true)] ∧ (s.fn H (ds ++ gs)).args = ds ∧ (s.fn H (ds ++ gs)).vars = [])
    (hb : Below W.heap.size W W') :
    s.post enc Try.prog f apart fresh handsOn again W args (.bool true) W' := by
  have hW' := hW
  obtain ⟨p, q, hA, hV, rfl, -, -⟩ := hW'
  rw [hv] at hV
  obtain ⟨rfl, rfl⟩ := trodVars_none hV
  have hlt : ∀ x ∈ p ++ [], x.block < W.heap.size := fun x hx => hW.lt x hx
  refine post_of_below (pa := p) (pv := []) hW ?_ ?_ ?_ rfl hb (ok_one hr rfl (okWide_bool_mk htb _))
  · intro b sp hd
    rw [hs.1, hr]
    exact trodAll_cons_mk (shut_bool htb _) trodAll_mk0
  · intro sp hsp
    rw [hs.2.1]
    exact trodAll_below (by kernel_rfl) hb 0 _ _ _ _ hp (fun x hx => hlt x (by simp [hx])) (fun x hx => hsp x (by simp [hx])) hA
  · intro sp _
    rw [hs.2.2, hv]
    rfl

/-- A slice of ints as an argument: its cells, and its length's bound. -/
theorem open_slice_ints {H : Type} {enc : TypeId × Value → H} {W : World} {base : Nat} {sp : Nat → Bool} {held : Bool} {r : Reach} {b0 : Nat} {v : Value} {d : DataW H} {ps : List MemPlace}
    (hval : Value.okWide Try.prog W r b0 25 v) (hd : DataW.Trod enc Try.prog W base sp held 25 v d ps) (hsp : ∀ b, sp b = true) :
    ∃ sa len cap, v = .slice sa len cap ∧ len ≤ maxLen ∧ Ints W sa len := by
  obtain ⟨a, len, cap, rfl⟩ := okWide_slice (e := 3) (by kernel_rfl) hval
  obtain ⟨fuel, hf⟩ := hd
  rcases open_ints (e := 3) (k := .i64) (by kernel_rfl) (by kernel_rfl) (by kernel_rfl) hf with ⟨hcs, -⟩ | ⟨a', len', cap', zs, hcs, -, hle, hmax, hzl, -, hcell, -⟩
  · simp [Value.cells] at hcs
    obtain ⟨rfl, rfl, rfl⟩ := hcs
    exact ⟨_, _, _, rfl, Nat.zero_le _, fun j hj => by omega⟩
  · simp [Value.cells] at hcs
    obtain ⟨rfl, rfl, rfl⟩ := hcs
    refine ⟨_, _, _, rfl, by omega, fun j hj => ⟨a', zs.getD j 0, rfl, hcell j ?_⟩⟩
    rw [hzl, hsp]
    simp only [if_true]
    omega

theorem own : ownKnob Try.prog.godebug = none := by kernel_rfl

end Go.Proofs.Ytfmcicmbehjdcaa

/- An argument made of numbers and bools alone (structs and arrays of them, however nested), opened: its cells, each with its kind. -/
namespace Go.Proofs.Ytfmcicmbehjdcaa
set_option linter.unusedSimpArgs false
set_option linter.unusedVariables false
open Go.RowKit Go.WideShapes

inductive CellKind where
  | int (k : IntKind)
  | bool
/-- The cells are of these kinds. -/
def Kinds : List CellKind → List Value → Prop
  | [], cs => cs = []
  | .int k :: ks, cs => ∃ n cs', (Lit.int k n).wf = true ∧ cs = .int k n :: cs' ∧ Kinds ks cs'
  | .bool :: ks, cs => ∃ b cs', cs = .bool b :: cs' ∧ Kinds ks cs'
theorem Kinds.length : ∀ {ks : List CellKind} {cs : List Value}, Kinds ks cs → cs.length = ks.length
  | [], cs, h => by rw [show cs = [] from h]; rfl
  | .int k :: ks, cs, h => by obtain ⟨n, cs', _, rfl, h⟩ := h; simp [h.length]
  | .bool :: ks, cs, h => by obtain ⟨b, cs', rfl, h⟩ := h; simp [h.length]
theorem Kinds.append : ∀ {ks ks' : List CellKind} {cs cs' : List Value}, Kinds ks cs → Kinds ks' cs' → Kinds (ks ++ ks') (cs ++ cs')
  | [], ks', cs, cs', h, h' => by rw [show cs = [] from h]; exact h'
  | .int k :: ks, ks', cs, cs', h, h' => by obtain ⟨n, c, hw, rfl, h⟩ := h; exact ⟨n, c ++ cs', hw, rfl, h.append h'⟩
  | .bool :: ks, ks', cs, cs', h, h' => by obtain ⟨b, c, rfl, h⟩ := h; exact ⟨b, c ++ cs', rfl, h.append h'⟩

def kindsList (rec : TypeId → Option (List CellKind)) : List (TypeId × Nat) → Nat → Option (List CellKind)
  | [], _ => some []
  | (t, off) :: fs, at_ => match rec t, kindsList rec fs (at_ + ((rec t).getD []).length) with
    | some ks, some r => if off = at_ then some (ks ++ r) else none
    | _, _ => none
/-- The kinds of a type's cells; none if there is more than numbers and bools. -/
def kindsOf (P : Program) : Nat → TypeId → Option (List CellKind)
  | 0, _ => none
  | f + 1, t => match P.underlying t with
    | some (.int k) => some [.int k]
    | some .bool => some [.bool]
    | some (.struct fs) => kindsList (fun t => match kindsOf P f t with | some ks => if P.cellsOf t = ks.length then some ks else none | none => none) (fs.toList.map fun f => (f.type, f.offset)) 0
    | some (.array n e) => kindsList (fun t => match kindsOf P f t with | some ks => if P.cellsOf t = ks.length then some ks else none | none => none) ((List.range n).map fun i => (e, i * P.cellsOf e)) 0
    | _ => none

theorem take_add' {α : Type} (l : List α) (i j : Nat) : l.take (i + j) = l.take i ++ (l.drop i).take j := by
  induction l generalizing i with
  | nil => simp
  | cons x l ih =>
    cases i with
    | zero => simp
    | succ i => rw [show i + 1 + j = (i + j) + 1 by omega]; simp [ih]

theorem kindsList_ok {rec : TypeId → Option (List CellKind)} {cs : List Value} {size : TypeId → Nat} (hs : ∀ t ks, rec t = some ks → size t = ks.length) :
    ∀ (fs : List (TypeId × Nat)) (at_ : Nat) (ks : List CellKind), kindsList rec fs at_ = some ks → (∀ f ∈ fs, ∀ ks, rec f.1 = some ks → Kinds ks ((cs.drop f.2).take (size f.1))) → Kinds ks ((cs.drop at_).take ks.length) := by
  intro fs
  induction fs with
  | nil => intro at_ ks h _; simp [kindsList] at h; subst h; simp [Kinds]
  | cons f fs ih =>
    intro at_ ks h hall
    obtain ⟨t, off⟩ := f
    unfold kindsList at h
    cases hr : rec t with
    | none => rw [hr] at h; simp at h
    | some k =>
      rw [hr] at h
      simp only [Option.getD_some] at h
      cases hl : kindsList rec fs (at_ + k.length) with
      | none => rw [hl] at h; simp at h
      | some r =>
        rw [hl] at h
        simp only at h
        split at h
        · rename_i he
          cases h
          subst he
          have h1 := hall (t, off) (by simp) k hr
          have h2 := ih _ _ hl (fun f hf => hall f (by simp [hf]))
          simp only at h1
          rw [hs t k hr] at h1
          rw [List.length_append, take_add', List.drop_drop]
          exact h1.append h2
        · cases h

section
variable {H : Type} {enc : TypeId × Value → H} {P : Program} {w : World} {base : Nat} {sp : Nat → Bool} {held : Bool}
theorem kinds_trod : ∀ (f m : Nat) (t : TypeId) (ks : List CellKind) (cs : List Value) (x : DataW H × List MemPlace), kindsOf P f t = some ks → P.cellsOf t = ks.length → DataW.trod enc P w base sp held m t cs = some x → Kinds ks cs
  | 0, _, _, _, _, _, h, _, _ => by simp [kindsOf] at h
  | f + 1, m, t, ks, cs, x, h, hz, ht => by
    have hrec : ∀ t ks, (match kindsOf P f t with | some ks => if P.cellsOf t = ks.length then some ks else none | none => none) = some ks → kindsOf P f t = some ks ∧ P.cellsOf t = ks.length := fun t ks h => by
      cases hk : kindsOf P f t with
      | none => rw [hk] at h; cases h
      | some k =>
        rw [hk] at h
        simp only at h
        split at h
        · cases h; exact ⟨rfl, by assumption⟩
        · cases h
    unfold kindsOf at h
    split at h
    · rename_i k hu
      cases h
      obtain ⟨n, hc, _, hw⟩ := DataW.trod_int hu ht
      exact ⟨n, [], hw, hc, rfl⟩
    · rename_i hu
      cases h
      obtain ⟨b, hc, _⟩ := DataW.trod_bool hu ht
      exact ⟨b, [], hc, rfl⟩
    · rename_i fs hu
      obtain ⟨xs, n, _, _, hl, hlen, hall⟩ := DataW.trod_struct hu ht
      have := kindsList_ok (cs := cs) (size := P.cellsOf) (fun t ks h => (hrec t ks h).2) _ _ _ h (fun g hg ks' hk => by
        obtain ⟨fd, hfd, rfl⟩ := List.mem_map.1 hg
        obtain ⟨i, hi, he⟩ := List.getElem_of_mem hfd
        have h1 := hall i fd (by rw [← he]; simp)
        have hi' : i < xs.length := by rw [hlen]; simpa using hi
        rw [List.getElem?_eq_getElem hi'] at h1
        exact kinds_trod f n fd.type ks' _ _ (hrec _ _ hk).1 (hrec _ _ hk).2 h1)
      rw [List.drop_zero, List.take_of_length_le (by omega)] at this
      exact this
    · rename_i n e hu
      obtain ⟨xs, m', _, _, hl, hlen, hall⟩ := DataW.trod_array hu ht
      have := kindsList_ok (cs := cs) (size := P.cellsOf) (fun t ks h => (hrec t ks h).2) _ _ _ h (fun g hg ks' hk => by
        obtain ⟨i, hi, rfl⟩ := List.mem_map.1 hg
        have hi' : i < n := by simpa using hi
        have h1 := hall i hi'
        rw [List.getElem?_eq_getElem (by omega)] at h1
        exact kinds_trod f m' e ks' _ _ (hrec _ _ hk).1 (hrec _ _ hk).2 h1)
      rw [List.drop_zero, List.take_of_length_le (by omega)] at this
      exact this
    · cases h

theorem okWide_agg {r : Reach} {b0 : Nat} {t : TypeId} {v : Value} (ht : (∃ fs, P.underlying t = some (.struct fs)) ∨ (∃ n e, P.underlying t = some (.array n e))) (h : Value.okWide P w r b0 t v) : ∃ cs, v = .agg cs := by
  rcases ht with ⟨fs, ht⟩ | ⟨n, e, ht⟩
  · obtain ⟨cs, h, _⟩ := okWide_struct ht h; exact ⟨cs, h⟩
  · unfold Value.okWide at h
    rw [ht] at h
    cases v <;> first | exact ⟨_, rfl⟩ | (exfalso; simp_all; done) | (exfalso; cases h; done) | skip

/-- An argument of numbers and bools alone, opened. -/
theorem open_flat {r : Reach} {b0 : Nat} {t : TypeId} {v : Value} {d : DataW H} {ps : List MemPlace} (ks : List CellKind) (hk : kindsOf P 8 t = some ks) (hz : P.cellsOf t = ks.length)
    (ht : (∃ fs, P.underlying t = some (.struct fs)) ∨ (∃ n e, P.underlying t = some (.array n e))) (hv : Value.okWide P w r b0 t v) (hd : DataW.Trod enc P w base sp held t v d ps) : ∃ cs, v = .agg cs.toArray ∧ Kinds ks cs := by
  obtain ⟨cs, rfl⟩ := okWide_agg ht hv
  obtain ⟨fuel, hf⟩ := hd
  exact ⟨cs.toList, by simp, kinds_trod 8 fuel t ks _ _ hk hz hf⟩
end
end Go.Proofs.Ytfmcicmbehjdcaa

/- An argument that is a slice of structs of numbers, opened: what lies in memory. -/
namespace Go.Proofs.Ytfmcicmbehjdcaa
set_option linter.unusedSimpArgs false
set_option linter.unusedVariables false
open Go.RowKit Go.WideShapes

section
variable {H : Type} {enc : TypeId × Value → H} {P : Program} {w : World} {base : Nat} {sp : Nat → Bool} {held : Bool}
theorem open_rows {t e : TypeId} (ht : P.underlying t = some (.slice e)) (ks : List CellKind) (hk : kindsOf P 8 e = some ks) (hz : P.cellsOf e = ks.length) {fuel : Nat} {cs : List Value} {x : DataW H × List MemPlace} (h : DataW.trod enc P w base sp held fuel t cs = some x) :
    ∃ (sa : Option Addr) (len cap : Nat), cs = [.slice sa len cap] ∧ len ≤ cap ∧ cap ≤ maxLen ∧ ∀ i, i < len → ∃ a vs, sa = some a ∧ Kinds ks vs ∧ ∀ j u, vs[j]? = some u → w.cell? (a.add (i * ks.length + j)) = some u := by
  rcases DataW.trod_slice ht h with ⟨rfl, -⟩ | ⟨a, len, cap, elems, rest, n, -, rfl, -, -, hl, hm, hlen, hel, -⟩
  · exact ⟨none, 0, 0, rfl, Nat.le_refl _, Nat.zero_le _, fun i hi => absurd hi (Nat.not_lt_zero _)⟩
  · refine ⟨some a, len, cap, rfl, hl, hm, fun i hi => ?_⟩
    have h1 := hel i hi
    rw [List.getElem?_eq_getElem (by omega)] at h1
    obtain ⟨vs, h2, h3⟩ := Option.bind_eq_some_iff.1 h1
    obtain ⟨-, h4, h5⟩ := World.cells?_some h2
    have h6 := kinds_trod 8 n e ks vs _ hk hz h3
    refine ⟨a, vs, rfl, h6, fun j u hu => ?_⟩
    have hj : j < vs.length := (List.getElem?_eq_some_iff.1 hu).1
    have h7 := h5 j (by omega)
    rw [hu, hz] at h7
    rw [← h7]
    congr 1
    exact (Addr.add_add a _ _).symm
theorem choose_list {α : Type} [Inhabited α] {Q : Nat → α → Prop} : ∀ n, (∀ i, i < n → ∃ x, Q i x) → ∃ xs : List α, xs.length = n ∧ ∀ i, i < n → Q i xs[i]!
  | 0, _ => ⟨[], rfl, fun i hi => absurd hi (Nat.not_lt_zero _)⟩
  | n + 1, h => by
    obtain ⟨xs, hl, hx⟩ := choose_list n (fun i hi => h i (by omega))
    obtain ⟨x, hq⟩ := h n (by omega)
    refine ⟨xs ++ [x], by simp [hl], fun i hi => ?_⟩
    by_cases e : i < n
    · rw [getElem!_pos _ i (by simp [hl]; omega), List.getElem_append_left (by omega), ← getElem!_pos xs i (by omega)]
      exact hx i e
    · obtain rfl : i = n := by omega
      rw [getElem!_pos _ i (by simp [hl])]
      simpa [hl] using hq
/-- What lies there, said by the elements themselves. -/
theorem open_rows_lies {t e : TypeId} (ht : P.underlying t = some (.slice e)) (ks : List CellKind) (hk : kindsOf P 8 e = some ks) (hz : P.cellsOf e = ks.length) (hpos : 0 < ks.length) {α : Type} [Inhabited α] (en : α → List Value) (hen : ∀ vs, Kinds ks vs → ∃ x, en x = vs)
    {fuel : Nat} {cs : List Value} {x : DataW H × List MemPlace} (h : DataW.trod enc P w base sp held fuel t cs = some x) :
    ∃ (sa : Option Addr) (cap : Nat) (xs : List α), cs = [.slice sa xs.length cap] ∧ xs.length ≤ cap ∧ cap ≤ maxLen ∧ Lies w w.heap.size sa ks.length xs.length (fun j => en xs[j]!) := by
  obtain ⟨sa, len, cap, rfl, hl, hm, hall⟩ := open_rows ht ks hk hz h
  obtain ⟨xs, hxl, hxs⟩ := choose_list (α := α) (Q := fun i x => ∃ a, sa = some a ∧ ∀ j u, (en x)[j]? = some u → w.cell? (a.add (i * ks.length + j)) = some u) len fun i hi => by
    obtain ⟨a, vs, h1, h2, h3⟩ := hall i hi
    obtain ⟨x, rfl⟩ := hen vs h2
    exact ⟨x, a, h1, h3⟩
  subst hxl
  refine ⟨sa, cap, xs, rfl, hl, hm, fun i hi => ?_⟩
  obtain ⟨a, rfl, hc⟩ := hxs i hi
  obtain ⟨a0, vs0, e0, h20, h30⟩ := hall 0 (by omega)
  obtain rfl : a = a0 := by simpa using e0
  obtain ⟨b, o, s⟩ := a
  have hlen0 := h20.length
  obtain ⟨u0, hu0⟩ : ∃ u, vs0[0]? = some u := ⟨_, List.getElem?_eq_getElem (by omega)⟩
  have hcell := h30 0 u0 hu0
  have hadd0 : Addr.add ⟨b, o, s⟩ (0 * ks.length + 0) = ⟨b, o, s⟩ := by simp [Addr.add]
  rw [hadd0] at hcell
  have hs : s = none := by
    unfold World.cell? at hcell
    split at hcell
    · cases s with
      | none => rfl
      | some _ => simp at hcell
    · cases hcell
  subst hs
  have hb : b < w.heap.size := by
    unfold World.cell? at hcell
    split at hcell
    · rename_i hh
      exact lt_of_heap hh
    · cases hcell
  refine ⟨b, o, rfl, hb, fun j u hu => ?_⟩
  have := hc j u hu
  rwa [Addr.add_lit, ← Nat.add_assoc] at this
end
end Go.Proofs.Ytfmcicmbehjdcaa
