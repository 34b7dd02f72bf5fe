/- Package owner: valid programs are found valid. -/
import Derived.Test.YtedbpmckgiifpaaGreatVld1
namespace Go.Proofs.YtedbpmckgiifpaaGreat
set_option linter.unusedSimpArgs false
set_option linter.unusedVariables false
open Go.RowKit
set_option maxRecDepth 100000
attribute [local go_sem] lt_more ne_more ne_more'
attribute [local go_sem] run_mkMapV
attribute [local irreducible] wpX wpF Calls

/-- What a search over a slice by a test hands back. -/
def FindPostPg (p : Pg → Bool) (xs : List Pg) (w : World) (e : Ending) (w' : World) : Prop :=
  ∃ r : Int, e = .returned (.int .i64 r) ∧ ((r = -1 ∧ ∀ i, i < xs.length → p xs[i]! = false) ∨ ∃ i : Nat, i < xs.length ∧ r = i ∧ p xs[i]! = true ∧ ∀ j, j < i → p xs[j]! = false) ∧ Below w.heap.size w w'
/-- The closure g with the captured addresses lb answers by p. -/
def AsksPg (g : Nat) (lb : Array Value) (p : Pg → Bool) (w : World) : Prop := ∀ W x, Below w.heap.size w W → Calls Tryz.prog g (#[.agg (pgC x).toArray] ++ lb) W (Gives (.bool (p x)) W)
set_option maxHeartbeats 2000000 in
theorem findPg (g : Nat) (eg : ∀ args w, (callFunc g args).run Tryz.prog w = .ok (.enter g args) w) (lb : Array Value) (p : Pg → Bool) {sa : Option Addr} (c : Nat) {xs : List Pg} (hx : xs.length ≤ 100000) (w : World) (hl : Lies w w.heap.size sa 3 xs.length (fun j => pgC xs[j]!)) (hp : AsksPg g lb p w) :
    Calls Tryz.prog 76 #[.slice sa xs.length c, .func (.func g) #[] lb] w (FindPostPg p xs w) := by
  have HL := Lib.hid hl
  have HP := Lib.hid hp
  clear hl hp
  go_enter Tryz.func76, Tryz.ntmps76
  have H := HS.start NoD w
  go_wp2_with fail
  go_loopw [5, 8] (fun _ i wr => ∃ (j : Nat), i = .int .i64 j ∧ j ≤ xs.length ∧ Hid (∀ i, i < j → p xs[i]! = false) ∧ HS NoD w [] wr) (fun _ i _ => xs.length - (intOf i).toNat)
  case atStart => exact ⟨0, rfl, Nat.zero_le _, fun i hi => absurd hi (Nat.not_lt_zero _), H⟩
  case round =>
    clear H
    obtain ⟨j, rfl, hj, HF, H⟩ := hrel
    skip
    by_cases hlt : j < xs.length
    · obtain ⟨b, o, rfl, hb, hc⟩ := (H.lies HL.out).at hlt
      have hcall := Lib.hid (fun (b : Bool) (e : p xs[j]! = b) => by have := HP.out wr xs[j]! H.done; rw [e] at this; exact this)
      obtain ⟨x, hxj⟩ : ∃ x, x = xs[j]! := ⟨_, rfl⟩
      rw [← hxj] at hc hcall
      have c0 : wr.cell? ⟨b, o + j * 3, none⟩ = _ := hc 0 _ rfl
      have c1 : wr.cell? ⟨b, o + j * 3 + 1, none⟩ = _ := hc 1 _ rfl
      have c2 : wr.cell? ⟨b, o + j * 3 + 2, none⟩ = _ := hc 2 _ rfl
      have HX := Lib.hid hxj
      clear hc hxj
      cases hq : p x with
      | true =>
        have HQ := Lib.hid hq
        have hca := hcall.out _ hq
        clear hq hcall
        go_wp2_with fail
        refine hca.mono ?_
        rintro _ w1 ⟨rfl, hb1⟩
        clear hca
        go_wp2_with fail
        go_ret
        exact ⟨_, rfl, .inr ⟨j, hlt, rfl, by rw [← HX.out]; exact HQ.out, HF.out⟩, (H.below hb1).done⟩
      | false =>
        have HQ := Lib.hid hq
        have hca := hcall.out _ hq
        clear hq hcall
        go_wp2_with fail
        refine hca.mono ?_
        rintro _ w1 ⟨rfl, hb1⟩
        clear hca
        go_wp2_with fail
        go_roundw
        case rel =>
          refine ⟨j + 1, by go_num, by omega, (show Hid _ from fun i hi => ?_), H.below hb1⟩
          by_cases e : i = j
          · subst e; rw [← HX.out]; exact HQ.out
          · exact HF.out i (by omega)
        case measure => simp [intOf]; omega
    · go_wp2_with fail
      go_ret
      exact ⟨-1, rfl, .inl ⟨rfl, fun i hi => HF.out i (by omega)⟩, H.done⟩
theorem any_ofPg {p : Pg → Bool} {xs : List Pg} {r : Int} (h : (r = -1 ∧ ∀ i, i < xs.length → p xs[i]! = false) ∨ ∃ i : Nat, i < xs.length ∧ r = i ∧ p xs[i]! = true ∧ ∀ j, j < i → p xs[j]! = false) : decide (0 ≤ r) = xs.any p := by
  rcases h with ⟨rfl, h⟩ | ⟨i, hi, rfl, h, -⟩
  · symm
    rw [show decide ((0 : Int) ≤ -1) = false from rfl, List.any_eq_false]
    intro x hx
    obtain ⟨i, hi, rfl⟩ := List.getElem_of_mem hx
    have := h i hi
    rw [getElem!_pos xs i hi] at this
    simp [this]
  · symm
    rw [show decide ((0 : Int) ≤ (i : Int)) = true by simp, List.any_eq_true]
    exact ⟨xs[i]!, by rw [getElem!_pos xs i hi]; exact List.getElem_mem _, h⟩
theorem containsPg (g : Nat) (eg : ∀ args w, (callFunc g args).run Tryz.prog w = .ok (.enter g args) w) (lb : Array Value) (p : Pg → Bool) {sa : Option Addr} (c : Nat) {xs : List Pg} (hx : xs.length ≤ 100000) (w : World) (hl : Lies w w.heap.size sa 3 xs.length (fun j => pgC xs[j]!)) (hp : AsksPg g lb p w) :
    Calls Tryz.prog 65 #[.slice sa xs.length c, .func (.func g) #[] lb] w (Gives (.bool (xs.any p)) w) := by
  have hf := Lib.hid (findPg g eg lb p c hx w hl hp)
  clear hl hp
  go_enter Tryz.func65, Tryz.ntmps65
  have H := HS.start NoD w
  go_wp2_with fail
  refine (hf.out).mono ?_
  rintro _ w1 ⟨r, rfl, hr, hb⟩
  replace H := H.below hb
  clear hb
  try clear C
  try simp only [World.size_alloc, List.nil_append, List.cons_append, List.append_assoc] at H
  have C := H.cells
  try simp only [cellsOf, cellsM, apartOf, apartM, and_true] at C
  dsimp only
  go_wp2_with fail
  go_ret
  exact ⟨by rw [← any_ofPg hr]; rfl, H.done⟩

theorem valid1_any (x : Pg) (w : World) : Calls Tryz.prog 66 #[.agg (pgC x).toArray] w (Gives (.bool (!x.s)) w) := by
  obtain ⟨p, l, t⟩ := x
  show Calls Tryz.prog 66 #[.agg #[.int .i64 p, .int .i64 l, .bool t]] w _
  go_enter Tryz.func66, Tryz.ntmps66
  have H := HS.start NoD w
  go_wp2_with fail
  go_ret
  exact ⟨rfl, H.alloc.done⟩
def fvR (qs : List Fv) : List Item := qs.map fun q => .row q.v 49 3 q.l.length (q.l.flatMap pgC)
theorem QOk.len {qs : List Fv} {A : List Pg} (h : QOk qs A) {q : Fv} (hq : q ∈ qs) : q.l.length ≤ A.length := by
  rw [h.each q hq]; exact List.length_filter_le _ _
section
variable {D : Nat → Prop} {W w : World} {L : List Item}
theorem HS.midOpen {R1 R2 : List Item} {X : Item} (h : HS D W (L ++ [Item.many (R1 ++ X :: R2)]) w) : HS D W (L ++ [Item.many R1, X, Item.many R2]) w := by
  have h0 := low_ofMany h
  have h1 := h.ofMany
  have h2 : HS D W ((L ++ R1 ++ [X]) ++ R2) w := by simpa using h1
  have h3 := h2.toMany fun A hA => h0 A (by simp [hA])
  have h4 : HS D W ((L ++ [X, Item.many R2]) ++ R1) w := h3.permu (by
    rw [List.append_assoc, List.append_assoc, List.append_assoc]
    exact List.Perm.append_left _ (show (R1 ++ [X, Item.many R2]).Perm ([X, Item.many R2] ++ R1) from List.perm_append_comm))
  have h5 := h4.toMany fun A hA => h0 A (by simp [hA])
  have h6 : HS D W (L ++ ([X, Item.many R2] ++ [Item.many R1])) w := by simpa using h5
  have h7 := h6.permu (List.Perm.append_left L (List.perm_append_comm (l₁ := [X, Item.many R2]) (l₂ := [Item.many R1])))
  simpa using h7
theorem HS.midShut {R1 R2 : List Item} {X : Item} (h : HS D W (L ++ [Item.many R1, X, Item.many R2]) w) (hX : X.low = 0) : HS D W (L ++ [Item.many (R1 ++ X :: R2)]) w := by
  have h1 : HS D W ((L ++ [Item.many R1, X]) ++ [Item.many R2]) w := by simpa using h
  have h0 := low_ofMany h1
  have h2 : HS D W ((L ++ [Item.many R1]) ++ (X :: R2)) w := by simpa using h1.ofMany
  have h3 := h2.toMany fun A hA => by
    rcases List.mem_cons.1 hA with rfl | hA
    · exact hX
    · exact h0 A hA
  rw [List.append_assoc] at h3
  exact HS.manyJoin h3
theorem HS.fvOpen {qs : List Fv} {A : List Pg} (h : HS D W (L ++ [Item.many (fvR qs)]) w) (hq : QOk qs A) (x : Pg) :
    ∃ v l R1 R2, (getV x.f (mapOf qs)).getD (.slice none 0 0) = v ∧ l.length ≤ A.length ∧ HS D W (L ++ [Item.many R1, .row v 49 3 l.length (l.flatMap pgC), Item.many R2]) w ∧
      ∀ v', ∃ qs', QOk qs' (A ++ [x]) ∧ mapOf qs' = putV x.f v' (mapOf qs) ∧ R1 ++ .row v' 49 3 (l.length + 1) ((l ++ [x]).flatMap pgC) :: R2 = fvR qs' := by
  rcases hq.step x with ⟨h1, h2⟩ | ⟨a, q, b, rfl, h1, h2⟩
  · refine ⟨.slice none 0 0, [], fvR qs, [], by rw [h1]; rfl, Nat.zero_le _, ?_, fun v' => ⟨qs ++ [⟨x.f, [x], v'⟩], (h2 v').1, (h2 v').2, ?_⟩⟩
    · have h3 := h.nilRow 49 3
      have h4 := HS.toMany (R := []) (L := (L ++ [Item.many (fvR qs)]) ++ [.row (.slice none 0 0) 49 3 0 []]) (by simpa using h3) (fun A hA => by cases hA)
      simpa using h4
    · unfold fvR
      rw [List.map_append]
      rfl
  · refine ⟨q.v, q.l, fvR a, fvR b, by rw [h1]; rfl, hq.len (by simp), HS.midOpen (by have : fvR (a ++ q :: b) = fvR a ++ .row q.v 49 3 q.l.length (q.l.flatMap pgC) :: fvR b := by unfold fvR; rw [List.map_append]; rfl
                                                                                      rw [← this]; exact h), fun v' => ⟨a ++ ⟨q.f, q.l ++ [x], v'⟩ :: b, (h2 v').1, (h2 v').2, ?_⟩⟩
    unfold fvR
    rw [List.map_append, List.map_cons, List.length_append]
    rfl
end
theorem allPg_succ {ps : List Pr} {j : Nat} (h : j < ps.length) : allPg (ps.take (j + 1)) = allPg (ps.take j) ++ (ps[j]!).pages := by
  unfold allPg
  rw [take_snoc h, List.flatMap_append]
  simp
theorem allPg_len {F : Int} {ps : List Pr} (h : ∀ p ∈ ps, Good1 F p) : (allPg ps).length ≤ 16 * ps.length := by
  induction ps with
  | nil => exact Nat.zero_le _
  | cons p ps ih =>
    unfold allPg at ih ⊢
    rw [List.flatMap_cons, List.length_append, List.length_cons]
    have := ih fun q hq => h q (by simp [hq])
    have := (h p (by simp)).plen
    omega
set_option maxHeartbeats 8000000 in
theorem ovalid_any {F : Int} {v : Value} {ps : List Pr} (hg : GoodP F ps) (w : World) (hl : Ps w w.heap.size v ps) :
    Calls Tryz.prog 43 #[v, .int .i64 F] w (Gives (.bool true) w) := by
  have HT : Tryz.prog.underlying 96 = some (.map 3 50) := by kernel_rfl
  have HK : Tryz.prog.underlying 3 = some (.int .i64) := by kernel_rfl
  have HE : ∀ w, (zeroValue 50).run Tryz.prog w = .ok (.slice none 0 0) w := fun w => by rfl
  have HFR := Lib.hid ((goodP_iff hg.okPr).1 hg).2
  have HG := Lib.hid hg
  obtain ⟨qs, hqs, ⟨sa, c, rfl, hc, hl⟩, hi⟩ := hl
  have hx0 : qs.length ≤ 8 := by have := hg.len; rw [← hqs] at this; simpa using this
  have HGD := Lib.hid (fun j => goodAt (j := j) hg hqs)
  have HL := Lib.hid hl
  have HI := Lib.hid hi
  have HQS := Lib.hid hqs
  have HAL := Lib.hid (allPg_len hg.one)
  have hpl : ps.length = qs.length := by rw [← hqs]; simp
  have HPL := Lib.hid hpl
  have HQA := Lib.hid (show qs.Pairwise (·.p.id < ·.p.id) by have := hg.asc; rw [← hqs, List.pairwise_map] at this; exact this)
  clear hl hi hqs hc hg hpl
  go_enter Tryz.func43, Tryz.ntmps43
  have H := HS.start NoD w
  go_upto_region 2 with fail
  generalize hwb : (w.alloc _) = wm
  replace H := HS.eqW hwb H.allocObj
  try simp only [World.size_alloc, List.nil_append, List.cons_append, List.append_assoc] at H
  clear hwb
  generalize w.heap.size = bm at H ⊢
  replace H := HS.toMany (L := [_]) (R := fvR []) H (fun A hA => by cases hA)
  simp only [List.nil_append, List.cons_append] at H
  skip
  try clear C
  try simp only [World.size_alloc, List.nil_append, List.cons_append, List.append_assoc] at H
  have C := H.cells
  try simp only [cellsOf, cellsM, apartOf, apartM, and_true] at C
  go_wp2_with fail
  go_loopw [15] (fun jj wr => ∃ (j : Nat) (es : Array MapEntry) (clock : Nat) (fs : List Fv), jj = .int .i64 j ∧ j ≤ qs.length ∧ Hid (MapV es clock (mapOf fs)) ∧ Hid (QOk fs (allPg (ps.take j))) ∧ HS NoD w [.obj bm (.map es clock), Item.many (fvR fs)] wr) (fun jj _ => qs.length - (intOf jj).toNat)
  case atStart => exact ⟨0, #[], 0, [], rfl, Nat.zero_le _, MapV.nil, QOk.nil, H⟩
  case round =>
    clear H C
    obtain ⟨j, es, clock, fs, rfl, hj, HM, HQ, H⟩ := hrel
    skip
    try clear C
    try simp only [World.size_alloc, List.nil_append, List.cons_append, List.append_assoc] at H
    have C := H.cells
    try simp only [cellsOf, cellsM, apartOf, apartM, and_true] at C
    by_cases hlt : j < qs.length
    · have HMM := HM
      clear HM
      obtain ⟨b, o, e0, hb, hc⟩ := (H.lies HL.out).at hlt
      cases e0
      have HM := Lib.hid (map_at hlt)
      have hpv := HI.out _ (mem_at hlt)
      obtain ⟨q, hxj⟩ : ∃ q, q = qs[j]! := ⟨_, rfl⟩
      rw [← hxj] at hc hpv
      have HX := Lib.hid hxj
      obtain ⟨⟨pi, pt, pd, pg, td⟩, pa, ta⟩ := q
      obtain ⟨⟨pb, pc, e1, hpc, hpl⟩, ⟨tb, tc, e2, htc, htl⟩⟩ := hpv
      have f1 : pa = .slice pb pg.length pc := e1
      have f2 : ta = .slice tb td.length tc := e2
      clear e1 e2
      subst f1 f2
      have HPG : Hid (Lies w w.heap.size pb 3 pg.length (fun j => pgC pg[j]!)) := hpl
      have HTD : Hid (Lies w w.heap.size tb 1 td.length (fun j => iC td[j]!)) := htl
      have HPC : Hid (pg.length ≤ pc ∧ (pb = none → pc = 0)) := hpc
      have HTC : Hid (td.length ≤ tc ∧ (tb = none → tc = 0)) := htc
      clear hpc htc
      clear hpl htl
      have c0 : wr.cell? ⟨b, o + j * 5, none⟩ = some (.int .i64 pi) := hc 0 _ rfl
      have c1 : wr.cell? ⟨b, o + j * 5 + 1, none⟩ = some (.bool pt) := hc 1 _ rfl
      have c2 : wr.cell? ⟨b, o + j * 5 + 2, none⟩ = some (.bool pd) := hc 2 _ rfl
      have c3 : wr.cell? ⟨b, o + j * 5 + 3, none⟩ = some (.slice pb pg.length pc) := hc 3 _ rfl
      have c4 : wr.cell? ⟨b, o + j * 5 + 4, none⟩ = some (.slice tb td.length tc) := hc 4 _ rfl
      clear hc hxj
      have HM0 := HM
      clear HM
      have HM := HMM
      clear HMM
      have hg1 := HGD.out j hlt
      rw [← HX.out] at hg1
      have HG1 := Lib.hid hg1
      have hp16 : pg.length ≤ 16 := hg1.plen
      have HPRV : Hid (∀ m, m + 1 = j → (qs[m]!).p.id < pi) := fun m h => by
        have := List.pairwise_iff_getElem.1 HQA.out m j (by omega) hlt (by omega)
        rw [← getElem!_pos qs m (by omega), ← getElem!_pos qs j hlt, ← HX.out] at this
        exact this
      have hjp : j < ps.length := by rw [HPL.out]; exact hlt
      have hpe : ps[j]! = ⟨pi, pt, pd, pg, td⟩ := by rw [← HQS.out, HM0.out, ← HX.out]
      have HSUC := Lib.hid (allPg_succ hjp)
      rw [hpe] at HSUC
      dsimp only at HSUC
      have HAJ : Hid ((allPg (ps.take j)).length ≤ 128) := by
        have h1 := HAL.out
        rw [HPL.out] at h1
        have h2 : (allPg (ps.take j)).length ≤ (allPg ps).length := by
          unfold allPg
          have : ps = ps.take j ++ ps.drop j := (List.take_append_drop j ps).symm
          conv => rhs; rw [this]
          rw [List.flatMap_append, List.length_append]
          omega
        show (allPg (ps.take j)).length ≤ 128
        omega
      clear hg1 hpe
      go_upto_region 5 with fail
      clear c0 c1 c2 c3 c4
      generalize hwb : wr.alloc _ = w1
      replace H := HS.eqW hwb H.alloc
      try simp only [World.size_alloc, List.nil_append, List.cons_append, List.append_assoc] at H
      clear hwb
      generalize wr.heap.size = b7 at H ⊢
      try clear C
      try clear wr
      have C := H.cells
      try simp only [cellsOf, cellsM, apartOf, apartM, and_true] at C
      go_cut [38] from 20 to 37 (fun y wx => y = .bool false ∧ HS NoD w [.obj bm (.map es clock), Item.many (fvR fs), .blk b7 #[.int .i64 pi, .bool pt, .bool pd, .slice pb pg.length pc, .slice tb td.length tc] 52] wx)
      case first =>
        by_cases hj0 : j = 0
        · have hgt : decide ((0 : Int) < (j : Int)) = false := decide_eq_false (by omega)
          have hgn : decide (0 < j) = false := decide_eq_false (by omega)
          clear hj0
          refine wp_region_xH (by kernel_rfl) (by kernel_rfl) (by kernel_rfl) (by kernel_rfl) (fun _ => False) (H) ?_
          clear H; intro w2 H hz0 hs0
          try clear C
          try simp only [World.size_alloc, List.nil_append, List.cons_append, List.append_assoc] at H hz0
          clear hz0
          try clear w1
          have C := H.cells
          try simp only [cellsOf, cellsM, apartOf, apartM, and_true] at C
          have Z := H.zs
          try simp only [ltsOf, ltsM, and_true] at Z
          have hz0 := Nat.le_refl w2.heap.size
          repeat (first | (refine wpX_skip rfl ?_; go_simp) | (refine wpX_free rfl rfl rfl (fun K hK => ?_); go_step; refine hK _ _ ?_; clear hK K) | (refine wpX_load rfl rfl rfl (by simp [Stay, OneD, NoD, *]) hs0 (by simp [*]) (fun K hK => ?_); go_step; refine hK _ _ ?_; clear hK K))
          refine wpX_eff rfl rfl (fun _ _ => ?_)
          go_step
          refine (ovalid1_any (q := ⟨⟨pi, pt, pd, pg, td⟩, .slice pb pg.length pc, .slice tb td.length tc⟩) HG1.out _ ⟨⟨pb, pc, rfl, HPC.out, H.liesUp HPG.out⟩, ⟨tb, tc, rfl, HTC.out, H.liesUp HTD.out⟩⟩).mono ?_
          rintro _ w3 ⟨rfl, hb⟩
          replace hs0 := hs0.belowS hz0 hb
          replace hz0 := Nat.le_trans hz0 hb.size
          replace H := H.below hb
          clear hb
          try clear C
          have C := H.cells
          try simp only [cellsOf, cellsM, apartOf, apartM, and_true] at C
          try clear w2
          dsimp only
          go_step
          refine ⟨hs0, ?_⟩
          repeat (first | (refine wpX_skip rfl ?_; go_simp) | (refine wpX_free rfl rfl rfl (fun K hK => ?_); go_step; refine hK _ _ ?_; clear hK K) | (refine wpX_load rfl rfl rfl (by simp [Stay, OneD, NoD, *]) hs0 (by simp [*]) (fun K hK => ?_); go_step; refine hK _ _ ?_; clear hK K))
          (refine wpX_nil ?_; go_step)
          go_meet
          exact ⟨rfl, H⟩
        · have hgt : decide ((0 : Int) < (j : Int)) = true := decide_eq_true (by omega)
          have hgn : decide (0 < j) = true := decide_eq_true (by omega)
          have hjt : ((j : Int) - 1).toNat = j - 1 := by omega
          have hjb : (0 : Int) ≤ (j : Int) - 1 := by omega
          have hjl : (j : Int) - 1 < (qs.length : Int) := by omega
          have hge : decide (pi ≤ (qs[j - 1]!).p.id) = false := decide_eq_false (by have := HPRV.out (j - 1) (by omega); omega)
          have hml : j - 1 < qs.length := by omega
          have HLE := Lib.hid (show (qs[j - 1]'hml).p.id < pi by have h := HPRV.out (j - 1) (by omega); rw [getElem!_pos qs (j - 1) hml] at h; exact h)
          clear hj0
          skip
          have hbB := hb
          refine wp_region_xH (by kernel_rfl) (by kernel_rfl) (by kernel_rfl) (by kernel_rfl) (fun _ => False) (H) ?_
          clear H; intro w4 H hz0 hs0
          try clear C
          try simp only [World.size_alloc, List.nil_append, List.cons_append, List.append_assoc] at H hz0
          clear hz0
          try clear w1
          have C := H.cells
          try simp only [cellsOf, cellsM, apartOf, apartM, and_true] at C
          have Z := H.zs
          try simp only [ltsOf, ltsM, and_true] at Z
          have hz0 := Nat.le_refl w4.heap.size
          have hbw : b < w4.heap.size := Nat.lt_of_lt_of_le hbB H.size
          repeat (first | (refine wpX_skip rfl ?_; go_simp) | (refine wpX_free rfl rfl rfl (fun K hK => ?_); go_step; refine hK _ _ ?_; clear hK K) | (refine wpX_load rfl rfl rfl (by simp [Stay, OneD, NoD, *]) hs0 (by simp [*]) (fun K hK => ?_); go_step; refine hK _ _ ?_; clear hK K))
          refine wpX_eff rfl rfl (fun _ _ => ?_)
          go_step
          refine (ovalid1_any (q := ⟨⟨pi, pt, pd, pg, td⟩, .slice pb pg.length pc, .slice tb td.length tc⟩) HG1.out _ ⟨⟨pb, pc, rfl, HPC.out, H.liesUp HPG.out⟩, ⟨tb, tc, rfl, HTC.out, H.liesUp HTD.out⟩⟩).mono ?_
          rintro _ w5 ⟨rfl, hb⟩
          replace hs0 := hs0.belowS hz0 hb
          replace hz0 := Nat.le_trans hz0 hb.size
          replace H := H.below hb
          clear hb
          try clear C
          have C := H.cells
          try simp only [cellsOf, cellsM, apartOf, apartM, and_true] at C
          try clear w4
          dsimp only
          go_step
          refine ⟨hs0, ?_⟩
          have d3 : w5.cell? ⟨b, o + (j - 1) * 5, none⟩ = some (.int .i64 (qs[j - 1]!).p.id) := by
            obtain ⟨bh, oh, e8, hbh, hch⟩ := (H.lies HL.out).at hml
            obtain ⟨rfl, rfl⟩ : bh = b ∧ oh = o := by simpa using e8.symm
            exact hch 0 _ rfl
          repeat (first | (refine wpX_skip rfl ?_; go_simp) | (refine wpX_free rfl rfl rfl (fun K hK => ?_); go_step; refine hK _ _ ?_; clear hK K) | (refine wpX_load rfl rfl rfl (by simp [Stay, OneD, NoD, *]) hs0 (by simp [*]) (fun K hK => ?_); go_step; refine hK _ _ ?_; clear hK K))
          (refine wpX_nil ?_; go_step)
          go_step
          go_meet
          exact ⟨by have h := HLE.out; simp; omega, H⟩
      case rest =>
        clear H C
        obtain ⟨rfl, H⟩ := hcut
        skip
        try clear C
        try simp only [World.size_alloc, List.nil_append, List.cons_append, List.append_assoc] at H
        have C := H.cells
        try simp only [cellsOf, cellsM, apartOf, apartM, and_true] at C
        go_wp2_with fail
        go_loopw [42] (fun kk wr => ∃ (k : Nat) (es : Array MapEntry) (clock : Nat) (fs : List Fv), kk = .int .i64 k ∧ k ≤ pg.length ∧ Hid (MapV es clock (mapOf fs)) ∧ Hid (QOk fs (allPg (ps.take j) ++ pg.take k)) ∧ HS NoD w [.obj bm (.map es clock), .blk b7 #[.int .i64 pi, .bool pt, .bool pd, .slice pb pg.length pc, .slice tb td.length tc] 52, Item.many (fvR fs)] wr) (fun kk _ => pg.length - (intOf kk).toNat)
        case atStart => exact ⟨0, es, clock, fs, rfl, Nat.zero_le _, HM.out, by rw [List.take_zero, List.append_nil]; exact HQ.out, H.permu (List.Perm.cons _ (List.Perm.swap _ _ _))⟩
        case round =>
          clear H C HM HQ es clock fs
          obtain ⟨k, es, clock, fs, rfl, hk, HM, HQ, H⟩ := hrel
          skip
          try clear C
          try simp only [World.size_alloc, List.nil_append, List.cons_append, List.append_assoc] at H
          have C := H.cells
          try simp only [cellsOf, cellsM, apartOf, apartM, and_true] at C
          by_cases hlk : k < pg.length
          · obtain ⟨bg, og, e9, hbg, hcg⟩ := (H.lies HPG.out).at hlk
            obtain rfl : pb = some ⟨bg, og, none⟩ := e9
            obtain ⟨xo, hxo⟩ : ∃ x, x = pg[k]! := ⟨_, rfl⟩
            rw [← hxo] at hcg
            have HTK := Lib.hid (show allPg (ps.take j) ++ pg.take (k + 1) = allPg (ps.take j) ++ pg.take k ++ [xo] by rw [take_snoc hlk, hxo, List.append_assoc])
            have hAl : (allPg (ps.take j) ++ pg.take k).length ≤ 200 := by
              have h1 := HAJ.out
              rw [List.length_append, List.length_take]
              omega
            clear hxo
            obtain ⟨v0, l0, R1, R2, hv0, hl0, H2, HSH⟩ := HS.fvOpen (L := [_, _]) H HQ.out xo
            obtain ⟨xn, xf, xs⟩ := xo
            have HV0 := Lib.hid hv0
            have HSH := Lib.hid HSH
            clear hv0 H C
            have H := H2
            clear H2
            simp only [List.nil_append, List.cons_append] at H
            obtain ⟨s0, e0, rfl⟩ := ownsRow_slice (H.at 3 rfl)
            have d0 : wr.cell? ⟨bg, og + k * 3, none⟩ = some (.int .i64 xn) := hcg 0 _ rfl
            have d1 : wr.cell? ⟨bg, og + k * 3 + 1, none⟩ = some (.int .i64 xf) := hcg 1 _ rfl
            have d2 : wr.cell? ⟨bg, og + k * 3 + 2, none⟩ = some (.bool xs) := hcg 2 _ rfl
            clear hcg
            try clear C
            try simp only [World.size_alloc, List.nil_append, List.cons_append, List.append_assoc] at H
            have C := H.cells
            try simp only [cellsOf, cellsM, apartOf, apartM, and_true] at C
            go_upto_region 10 with fail
            clear d0 d1 d2
            generalize hwb : wr.alloc _ = w6
            replace H := HS.eqW hwb H.alloc
            try simp only [World.size_alloc, List.nil_append, List.cons_append, List.append_assoc] at H
            clear hwb
            generalize wr.heap.size = b9 at H ⊢
            try clear C
            try clear wr
            have C := H.cells
            try simp only [cellsOf, cellsM, apartOf, apartM, and_true] at C
            refine wp_region_zH (by kernel_rfl) (by kernel_rfl) (by kernel_rfl) (by kernel_rfl) (by kernel_rfl) (by dsimp only [List.dropLast]) rfl (fun w => w.heap[bm]? = some (.map es clock) ∧ (∀ o, w.cell? ⟨b9, o, none⟩ = #[Value.int .i64 xn, .int .i64 xf, .bool xs][o]?)) (H) (fun w0 h _ => ⟨h.at 0 rfl, fun o => Blk.cell (h.at 5 rfl) o⟩) ?_
            clear H; intro w7 h0 H hz0
            try clear C
            try simp only [World.size_alloc, List.nil_append, List.cons_append, List.append_assoc] at H hz0
            clear hz0
            try clear w6
            have C := H.cells
            try simp only [cellsOf, cellsM, apartOf, apartM, and_true] at C
            (refine wpX_free rfl rfl rfl (fun K hK => ?_); go_step; refine hK _ _ ?_; clear hK K)
            (refine wpX_free rfl rfl rfl (fun K hK => ?_); go_step; refine hK _ _ ?_; clear hK K)
            (refine wpX_yield rfl rfl (.int .i64 xf) (fun w hw => by obtain ⟨k0, k1⟩ := hw; go_simp) ?_; go_simp)
            (refine wpX_free rfl rfl rfl (fun K hK => ?_); go_step; refine hK _ _ ?_; clear hK K)
            (refine wpX_free rfl rfl rfl (fun K hK => ?_); go_step; refine hK _ _ ?_; clear hK K)
            (refine wpX_yield rfl rfl (.int .i64 xf) (fun w hw => by obtain ⟨k0, k1⟩ := hw; go_simp) ?_; go_simp)
            refine wpX_lookup_V (by rfl) (.tmp 49) (.tmp 51) rfl HT HK HE (fun w hS => hS.1) HM.out rfl rfl (v := .slice s0 l0.length e0) HV0.out ?_
            go_simp
            (refine wpX_yield rfl rfl (.agg #[.int .i64 xn, .int .i64 xf, .bool xs]) (fun w hw => by obtain ⟨k0, k1⟩ := hw; go_simp) ?_; go_simp)
            refine wpX_eff rfl rfl (fun _ _ => ?_)
            go_step
            go_step
            generalize hwb : World.alloc _ _ = w8
            replace H := HS.eqW hwb H.alloc
            try simp only [World.size_alloc, List.nil_append, List.cons_append, List.append_assoc] at H
            clear hwb
            generalize w7.heap.size = bL at H ⊢
            try clear C
            try clear w7
            have C := H.cells
            try simp only [cellsOf, cellsM, apartOf, apartM, and_true] at C
            refine ⟨⟨H.at 0 rfl, fun o => (Blk.cell (H.at 5 rfl) o).trans (by simp)⟩, ?_⟩
            refine wpX_append_H rfl rfl (.tmp 52) (.tmp 54) 50 rfl elemPg H 3 rfl rfl 6 rfl rfl rfl rfl (by decide) (by unfold maxLen; omega) (by omega) (fun gz cz w9 HZ hzz => ?_)
            clear H hzz
            have H := HZ
            clear HZ
            try simp only [List.nil_append, List.cons_append, List.append_assoc, List.set_cons_succ, List.set_cons_zero] at H
            try clear C
            try clear w8
            have C := H.cells
            try simp only [cellsOf, cellsM, apartOf, apartM, and_true] at C
            refine ⟨⟨H.at 0 rfl, fun o => (Blk.cell (H.at 5 rfl) o).trans (by simp)⟩, ?_⟩
            refine wpX_nil ?_
            go_simp
            obtain ⟨fs2, hq2, hm2, hr2⟩ := HSH.out (.slice (some ⟨gz, 0, none⟩) (l0.length + 1) cz)
            have HQ2 := Lib.hid hq2
            have HM2 := Lib.hid hm2
            have HR2 := Lib.hid hr2
            clear hq2 hm2 hr2
            refine wpList_update_V rfl (.tmp 46) (.tmp 48) (.tmp 55) rfl HT HK H 0 rfl HM.out rfl rfl rfl (fun wz es' clock' hM' HZ => ?_)
            clear H C
            simp only [List.set_cons_succ, List.set_cons_zero] at HZ
            replace hM' : MapV es' clock' (putV xf (.slice (some ⟨gz, 0, none⟩) (l0.length + 1) cz) (mapOf fs)) := hM'
            rw [← HM2.out] at hM'
            have e7 : (l0 ++ ([⟨xn, xf, xs⟩] : List Pg)).flatMap pgC = l0.flatMap pgC ++ [.int .i64 xn, .int .i64 xf, .bool xs] := by rw [List.flatMap_append]; rfl
            have H8 : HS NoD w ([.obj bm (.map es' clock'), .blk b7 #[.int .i64 pi, .bool pt, .bool pd, .slice (some ⟨bg, og, none⟩) pg.length pc, .slice tb td.length tc] 52] ++ [Item.many R1, .row (.slice (some ⟨gz, 0, none⟩) (l0.length + 1) cz) 49 3 (l0.length + 1) ((l0 ++ ([⟨xn, xf, xs⟩] : List Pg)).flatMap pgC), Item.many R2]) wz := by
              rw [e7]
              exact HS.less HZ (by repeat (first | exact .slnil | refine .cons_cons _ ?_ | refine .cons _ ?_))
            have H9 := HS.midShut H8 rfl
            rw [HR2.out] at H9
            clear HZ H8
            skip
            go_wp2_with fail
            go_roundw
            case rel => exact ⟨k + 1, es', clock', fs2, by go_num, by omega, hM', (show Hid _ from by show QOk _ _; rw [HTK.out]; exact HQ2.out), H9⟩
            case measure => simp [intOf]; omega
          · have hke : k = pg.length := by omega
            subst hke
            have hq9 := HQ.out
            rw [List.take_length] at hq9
            have HQ9 : Hid (QOk fs (allPg (ps.take (j + 1)))) := by rw [HSUC.out]; exact hq9
            go_wp2_with fail
            go_roundw
            case rel => exact ⟨j + 1, es, clock, fs, by go_num, by omega, HM.out, HQ9.out, H.less (by repeat (first | exact .slnil | refine .cons_cons _ ?_ | refine .cons _ ?_))⟩
            case measure => simp [intOf]; omega
    · have hje : j = ps.length := by rw [HPL.out]; omega
      have hqe : j = qs.length := by omega
      have hq9 := HQ.out
      rw [hje, List.take_length] at hq9
      have HOK := Lib.hid (hq9.fr.1 HFR.out)
      have HLN : Hid (∀ q ∈ fs, q.l.length ≤ 128) := fun q hq => by
        have h1 := hq9.len hq
        have h2 := HAL.out
        rw [HPL.out] at h2
        omega
      clear hq9 hje hqe
      go_upto_region 14 with (at_range; refine wpList_range_V rfl (.tmp 58) 96 rfl HT H 0 rfl rfl ?_; clear H C; intro H)
      try simp only [List.nil_append, List.cons_append] at H
      generalize hwb : wr.alloc _ = w2 at H ⊢
      clear hwb
      generalize wr.heap.size = r at H ⊢
      go_frame
      go_loopw [] (fun wr => ∃ seen : Array Nat, HS NoD w [.obj bm (.map es clock), Item.many (fvR fs), .obj r (.mapIter (some bm) clock seen clock)] wr) (fun wr => itLeftV es r wr)
      case atStart => exact ⟨#[], H⟩
      case round =>
        clear H
        obtain ⟨seen, H⟩ := hrel
        try clear C
        try simp only [World.size_alloc, List.nil_append, List.cons_append, List.append_assoc] at H
        have C := H.cells
        try simp only [cellsOf, cellsM, apartOf, apartM, and_true] at C
        go_upto_region 15 with (at_next; refine wpList_next_V rfl (.tmp 59) rfl H 0 2 HM.out rfl rfl rfl rfl (by decide) (fun hdone => ?_) (fun x v e wz he hke hve hmM hltn HZ hen => ?_))
        · go_ret
          exact ⟨by simp; try omega, H.done⟩
        · have HOLD := Lib.hid (itLeftV_of (es := es) (H.at 2 rfl))
          clear H C
          have H := HZ
          clear HZ
          simp only [List.set_cons_succ, List.set_cons_zero] at H
          have C := H.cells
          try simp only [cellsOf, cellsM, apartOf, apartM, and_true] at C
          obtain ⟨q, hqm, hqf, hqv⟩ := mem_mapOf hmM
          have hrow : wz.ownsRow 0 49 3 q.v q.l.length (q.l.flatMap pgC) := H.manyOks 1 rfl (.row q.v 49 3 q.l.length (q.l.flatMap pgC)) (List.mem_map.2 ⟨q, hqm, rfl⟩)
          have hfo := HOK.out q hqm
          have hll : q.l.length ≤ 1000 := by
            have := HLN.out q hqm
            omega
          obtain ⟨s9, e9, hs9⟩ := ownsRow_slice hrow
          rw [hqv] at hs9 hrow
          subst hs9
          have HLI := Lib.hid (fun (w : World) (hr : w.ownsRow 0 49 3 (.slice s9 q.l.length e9) q.l.length (q.l.flatMap pgC)) => ownsRow_lies pgC_len rfl hr)
          have hli := ownsRow_lies pgC_len rfl hrow
          have HFO := Lib.hid ((FrOk.iff q.l).1 hfo)
          generalize q.l = ql at *
          clear hqf hqv hrow hfo hke hve hmM hqm he
          skip
          go_step
          refine wpList_entry_V rfl (.tmp 59) rfl rfl hen ?_
          by_cases hlen : 1 < ql.length
          · have hany : ql.any (fun x => !x.s) = false := by
              cases hb : ql.any (fun x => !x.s) with
              | false => rfl
              | true => exact absurd ⟨hlen, hb⟩ HFO.out
            have hcon := containsPg 66 (fun _ _ => rfl) #[] (fun x => !x.s) e9 (by omega) wz hli (fun W x _ => valid1_any x W)
            rw [hany] at hcon
            have HCO := Lib.hid hcon
            have hlen2 : (1 : Int) < ql.length := by omega
            clear hcon hany hli
            go_wp2_with fail
            refine (HCO.out).mono ?_
            rintro _ w10 ⟨rfl, hb⟩
            replace H := H.below hb
            clear hb
            try clear C
            try simp only [World.size_alloc, List.nil_append, List.cons_append, List.append_assoc] at H
            try clear wz
            have C := H.cells
            try simp only [cellsOf, cellsM, apartOf, apartM, and_true] at C
            dsimp only
            go_wp2_with fail
            exact ⟨⟨seen.push e.born, H⟩, by rw [itLeftV_of (H.at 2 rfl), HOLD.out]; exact hltn⟩
          · have hlen2 : ¬ (1 : Int) < ql.length := by omega
            clear hli
            go_wp2_with fail
            exact ⟨⟨seen.push e.born, H⟩, by rw [itLeftV_of (H.at 2 rfl), HOLD.out]; exact hltn⟩
end Go.Proofs.YtedbpmckgiifpaaGreat
