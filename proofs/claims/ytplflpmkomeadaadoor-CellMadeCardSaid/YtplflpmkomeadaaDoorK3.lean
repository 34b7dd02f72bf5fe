/- Several texts in one: LawZ, LawN. -/
import Derived.Test.YtplflpmkomeadaaDoorK1
import Derived.WalkKit
import Derived.ProofKit
import Derived.OpenShut
import Derived.Below
import Derived.Deep.DeepHandedRow
import Derived.Test.YtplflpmkomeadaaDoorCov
import Derived.Test.YtplflpmkomeadaaDoorTie
import Derived.Lib.LaidTab
/- What every one of these statements ends with: a law's call that answers true and turns nothing of what was there pays the row's 'post'; the arguments opened. (For rows that list no variable.) -/
namespace Go.Proofs.YtplflpmkomeadaaDoor
set_option linter.unusedSimpArgs false
set_option linter.unusedVariables false
open Go.RowKit Go.WideShapes Go.ChangeShapes Go.ChangeAt
set_option maxRecDepth 100000

section
variable {H : Type} {enc : TypeId × Value → H} {P : Program}
/-- The row's last step, of a world of which 'Below' alone is known (after the kit's paper). -/
theorem post_of_below {f : Func} {s : ChangeSpec} {apart fresh handsOn again : Bool} {W W' : World} {args : Array Value} {v : Value} {ds gs : List (DataW H)} {before pa pv : List MemPlace}
    (hW : DataW.Whole enc P f.params.toList s.vars apart W args.toList ds gs before)
    (hres : ∀ (b : Nat) (sp : Nat → Bool) (hd : Bool), DataW.TrodAll enc P W' b sp hd f.resultTypes.toList (v.resultList f.resultTypes.size) (s.fn H (ds ++ gs)).results [])
    (hargs : ∀ sp : Nat → Bool, (∀ p ∈ before, sp p.block = true) → DataW.TrodAll enc P W' 0 sp true f.params.toList args.toList (s.fn H (ds ++ gs)).args pa)
    (hvars : ∀ sp : Nat → Bool, (∀ p ∈ before, sp p.block = true) → DataW.TrodVars enc P W' sp s.vars (s.fn H (ds ++ gs)).vars pv)
    (hps : before = pa ++ pv) (hb : Below W.heap.size W W')
    (hok : ∀ (j : Nat) (t : TypeId) (r : Value), f.resultTypes[j]? = some t → (v.resultList f.resultTypes.size)[j]? = some r → Value.okWide P W' .any 0 t r) :
    s.post enc P f apart fresh handsOn again W args v W' := by
  have hlt : ∀ p ∈ before, p.block < W.heap.size := fun p hp => hW.lt p hp
  have hold : ∀ p ∈ before, (fun b => decide (b < W.heap.size)) p.block = true := fun p hp => by simpa using hlt p hp
  refine ⟨ds, gs, before, [], pa, pv, hW, hres _ _ _, hargs _ hold, hvars _ hold, World.keptBut_mono (fun p hp => ⟨hp, ?_⟩) (hb.frame (· ∈ before)), fun _ => ?_⟩
  · rw [hps, List.mem_append] at hp
    exact Or.inr hp
  · obtain ⟨_, _, _, _, _, hz, hn⟩ := hW
    refine ⟨hok, _, _, ([] ++ pa) ++ pv, ⟨[] ++ pa, pv, trodAll_append (hargs _ (fun _ _ => rfl)) (hres _ _ _), hvars _ (fun _ _ => rfl), rfl, ?_, ?_⟩, ?_⟩
    · intro b off hp
      have hin : MemPlace.cell b off ∈ before := by rw [hps]; simpa using hp
      rw [hb.frozen (hlt _ hin)]
      exact hz b off hin
    · intro ha
      have := hn ha
      rw [hps] at this
      simpa using this
    · intro p hp _
      rw [hps]
      simpa using hp

/-- All arguments read as they did. -/
theorem trodAll_below (hl : laidOutB P = true) {W W' : World} (hb : Below W.heap.size W W') {sp : Nat → Bool} (base : Nat) :
    ∀ (ts : List TypeId) (vs : List Value) (ds : List (DataW H)) (ps : List MemPlace), (∀ t ∈ ts, P.readableRec t = true ∧ t < P.types.size) →
      (∀ x ∈ ps, x.block < W.heap.size) → (∀ x ∈ ps, sp x.block = true) → DataW.TrodAll enc P W base (fun _ => true) true ts vs ds ps → DataW.TrodAll enc P W' base sp true ts vs ds ps
  | [], [], [], ps, _, _, _, h => h
  | t :: ts, v :: vs, d :: ds, ps, hr, hlt, hsp, h => by
    obtain ⟨p, q, h1, h2, rfl⟩ := h
    refine ⟨p, q, ?_, trodAll_below hl hb base ts vs ds q (fun t ht => hr t (by simp [ht])) (fun x hx => hlt x (by simp [hx])) (fun x hx => hsp x (by simp [hx])) h2, rfl⟩
    exact WideElems.Trod_stays hl (hr t (by simp)).1 (hr t (by simp)).2 h1 (fun x hx => hb.same (hlt x (by simp [hx]))) (fun x hx => hsp x (by simp [hx]))
  | [], _ :: _, _, _, _, _, _, h => by simp [DataW.TrodAll] at h
  | [], [], _ :: _, _, _, _, _, h => by simp [DataW.TrodAll] at h
  | _ :: _, [], _, _, _, _, _, h => by simp [DataW.TrodAll] at h
  | _ :: _, _ :: _, [], _, _, _, _, h => by simp [DataW.TrodAll] at h
end

/-- A law that answers true: its row's 'post'. -/
theorem law_post {H : Type} {enc : TypeId × Value → H} {f : Func} {s : ChangeSpec} {apart fresh handsOn again : Bool} {W W' : World} {args : Array Value} {ds gs : List (DataW H)} {before : List MemPlace} {tb : TypeId}
    (hW : DataW.Whole enc Tryd.prog f.params.toList s.vars apart W args.toList ds gs before) (hv : s.vars = [])
    (hr : f.resultTypes = #[tb]) (htb : Tryd.prog.underlying tb = some .bool) (hp : ∀ t ∈ f.params.toList, Tryd.prog.readableRec t = true ∧ t < Tryd.prog.types.size)
    (hs : (s.fn H (ds ++ gs)).results = [.lit (.bool true)] ∧ (s.fn H (ds ++ gs)).args = ds ∧ (s.fn H (ds ++ gs)).vars = [])
    (hb : Below W.heap.size W W') :
    s.post enc Tryd.prog f apart fresh handsOn again W args (.bool true) W' := by
  have hW' := hW
  obtain ⟨p, q, hA, hV, rfl, -, -⟩ := hW'
  rw [hv] at hV
  obtain ⟨rfl, rfl⟩ := trodVars_none hV
  have hlt : ∀ x ∈ p ++ [], x.block < W.heap.size := fun x hx => hW.lt x hx
  refine post_of_below (pa := p) (pv := []) hW ?_ ?_ ?_ rfl hb (ok_one hr rfl (okWide_bool_mk htb _))
  · intro b sp hd
    rw [hs.1, hr]
    exact trodAll_cons_mk (shut_bool htb _) trodAll_mk0
  · intro sp hsp
    rw [hs.2.1]
    exact trodAll_below (by kernel_rfl) hb 0 _ _ _ _ hp (fun x hx => hlt x (by simp [hx])) (fun x hx => hsp x (by simp [hx])) hA
  · intro sp _
    rw [hs.2.2, hv]
    rfl

/-- A slice of ints as an argument: its cells, and its length's bound. -/
theorem open_slice_ints {H : Type} {enc : TypeId × Value → H} {W : World} {base : Nat} {sp : Nat → Bool} {held : Bool} {r : Reach} {b0 : Nat} {v : Value} {d : DataW H} {ps : List MemPlace}
    (hval : Value.okWide Tryd.prog W r b0 22 v) (hd : DataW.Trod enc Tryd.prog W base sp held 22 v d ps) (hsp : ∀ b, sp b = true) :
    ∃ sa len cap, v = .slice sa len cap ∧ len ≤ maxLen ∧ Ints W sa len := by
  obtain ⟨a, len, cap, rfl⟩ := okWide_slice (e := 3) (by kernel_rfl) hval
  obtain ⟨fuel, hf⟩ := hd
  rcases open_ints (e := 3) (k := .i64) (by kernel_rfl) (by kernel_rfl) (by kernel_rfl) hf with ⟨hcs, -⟩ | ⟨a', len', cap', zs, hcs, -, hle, hmax, hzl, -, hcell, -⟩
  · simp [Value.cells] at hcs
    obtain ⟨rfl, rfl, rfl⟩ := hcs
    exact ⟨_, _, _, rfl, Nat.zero_le _, fun j hj => by omega⟩
  · simp [Value.cells] at hcs
    obtain ⟨rfl, rfl, rfl⟩ := hcs
    refine ⟨_, _, _, rfl, by omega, fun j hj => ⟨a', zs.getD j 0, rfl, hcell j ?_⟩⟩
    rw [hzl, hsp]
    simp only [if_true]
    omega

theorem own : ownKnob Tryd.prog.godebug = none := by kernel_rfl

end Go.Proofs.YtplflpmkomeadaaDoor

/- The table's cells out of the row's list (beside LawZ, for the cards of a seat whose rows list the table). -/
namespace Go.Proofs.YtplflpmkomeadaaDoor
set_option linter.unusedSimpArgs false
set_option linter.unusedVariables false
open Go.RowKit Go.WideShapes Go.ChangeShapes Go.ChangeAt
set_option maxRecDepth 100000

theorem tr_bool {H : Type} {enc : TypeId × Value → H} {w : World} {base : Nat} {sp : Nat → Bool} {held : Bool} {m : Nat} {cs : List Value} {b : Bool} {ps : List MemPlace}
    (h : DataW.trod enc Tryd.prog w base sp held m 4 cs = some (.lit (.bool b), ps)) : cs = [.bool b] := by
  obtain ⟨b', hc, hx⟩ := DataW.trod_bool (by kernel_rfl) h
  simp only [Prod.mk.injEq, DataW.lit.injEq, Lit.bool.injEq] at hx
  rw [hc, hx.1]

/-- The row's list gives the table's cells. -/
theorem nm_of_laid {W : World} (h : laidMetH Tryd.prog [("memfault/part.names", Rows.laid_memfault_part_names)] W) : Nm W := by
  obtain ⟨ps, ⟨g', t', cs, fuel, p, q, hg', ht', hvar, hd, _, _⟩, _⟩ := (show laidMet _ _ _ from h)
  obtain rfl := Option.some.inj ((show Tryd.prog.globalNamed "memfault/part.names" = some 0 by kernel_rfl).symm.trans hg')
  obtain rfl := Option.some.inj ((show (Tryd.prog.globals[0]?).map (·.type) = some 87 by kernel_rfl).symm.trans ht')
  have hcell := World.var?_cell (show Tryd.prog.globalNamed "memfault/part.names" = some 0 by kernel_rfl) hvar
  obtain ⟨xs, m, rfl, hx, hl, hxl, he⟩ := DataW.trod_array (n := 7) (e := 86) (by kernel_rfl) hd
  rw [show Tryd.prog.cellsOf 86 = 6 by kernel_rfl] at he
  simp only [Prod.mk.injEq, Rows.laid_memfault_part_names, DataW.agg.injEq] at hx
  have key : ∀ (k : Nat) (row : List (DataW Unit)), k < 7 → (xs.map (·.1))[k]? = some (.agg row) → ∀ (i : Nat) (b : Bool), i < 6 → row[i]? = some (.lit (.bool b)) → cs[6 * k + i]? = some (.bool b) := by
    intro k row hk hr i b hi hb
    have h1 := he k hk
    rw [List.getElem?_map, Option.map_eq_some_iff] at hr
    obtain ⟨⟨dd, pp⟩, hx1, rfl⟩ := hr
    rw [hx1] at h1
    obtain ⟨ys, m', -, hy, -, hyl, hf⟩ := DataW.trod_array (n := 6) (e := 4) (by kernel_rfl) h1
    rw [show Tryd.prog.cellsOf 4 = 1 by kernel_rfl] at hf
    simp only [Prod.mk.injEq, DataW.agg.injEq] at hy
    have h2 := hf i hi
    rw [hy.1, List.getElem?_map, Option.map_eq_some_iff] at hb
    obtain ⟨⟨dd2, pp2⟩, hx2, hb⟩ := hb
    simp only at hb
    subst hb
    rw [hx2] at h2
    have h3 := tr_bool h2
    have h4 := congrArg (·[0]?) h3
    simp only [List.getElem?_take, List.getElem?_drop] at h4
    simpa [hi, Nat.mul_comm] using h4
  clear he
  intro k hk1 hk2 i hi
  have hc := hcell (6 * k + i)
  rw [hc]
  have hk := hx.1.symm
  have : k = 1 ∨ k = 2 ∨ k = 3 ∨ k = 4 ∨ k = 5 ∨ k = 6 := by omega
  have hi' : i = 0 ∨ i = 1 ∨ i = 2 ∨ i = 3 ∨ i = 4 ∨ i = 5 := by omega
  rcases this with rfl | rfl | rfl | rfl | rfl | rfl <;> rcases hi' with rfl | rfl | rfl | rfl | rfl | rfl <;>
    exact key _ _ (by decide) (by rw [hk]; rfl) _ _ (by decide) rfl

/-- A world for the witness: the settled one, with the table laid. -/
noncomputable def laidWorld (os : Os) : World :=
  { World.holding Tryd.prog os ⟨#[], #[], []⟩ with heap := (World.holding Tryd.prog os ⟨#[], #[], []⟩).heap.modify 0 fun
      | .cells _ t frozen => .cells #[.bool false, .bool false, .bool false, .bool false, .bool false, .bool false,
          .bool true, .bool true, .bool true, .bool true, .bool true, .bool true,
          .bool true, .bool true, .bool true, .bool true, .bool true, .bool false,
          .bool true, .bool true, .bool true, .bool true, .bool false, .bool true,
          .bool true, .bool true, .bool true, .bool true, .bool false, .bool false,
          .bool true, .bool true, .bool true, .bool false, .bool false, .bool false,
          .bool true, .bool true, .bool false, .bool false, .bool false, .bool false] t frozen
      | o => o }
end Go.Proofs.YtplflpmkomeadaaDoor
