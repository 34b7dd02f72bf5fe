/- Copies of programs (memfaultref29). -/
import Derived.Test.YtmnddnlabdafcaaO2
import Derived.Test.YtmnddnlabdafcaaGenA
namespace Go.Proofs.Ytmnddnlabdafcaa
set_option linter.unusedSimpArgs false
set_option linter.unusedVariables false
open Go.RowKit
set_option maxRecDepth 100000
attribute [local go_sem] lt_more ne_more ne_more'
attribute [local irreducible] wpX wpF Calls

section
variable {P : Program} {D : Nat → Prop} {W w : World} {L : List Item}
/-- 'append' of what lies anywhere onto a slice of one's own, as one step of a region that draws. -/
theorem step_append_src {ops : Array Oper} {o : Oper} {a : Act} {K : Act → World → Prop} {Q : Exit → Act → World → Prop} {E : Prop} (hgd : o.guard = none) (s x : Operand) (t : TypeId)
    (ho : o.op = .call { callee := .builtin .append, args := #[s, x], argTypes := #[t, t] }) {e : TypeId} {z : Value} {size bytes : Nat} (hE : Elem P t e z size bytes)
    (H : HS D W L w) (k : Nat) {v : Value} {n : Nat} {xs : List Value} (hk : L[k]? = some (.row v e size n xs)) (hs : a.eval s = v)
    {sa : Option Addr} {m c : Nat} {news : List Value} (hx : a.eval x = .slice sa m c) (hsrc : SrcOk w sa m c news) (hl : news.length = m * size) (h1 : ∀ y ∈ news, y.oneCell' = true) (h63 : n + m ≤ maxLen) (hbytes : (n + m) * bytes ≤ 140737488355328) {N : Nat} (hN : n + m = N)
    (h : ∀ s' c' w', HS D W (L.set k (.row (.slice s' N c') e size N (xs ++ news))) w' → w.grownBy w' v.ownBlock → K (a.put o.dst (.slice s' N c')) w') :
    if Region.wanted o (yielded ops a.tmps) = true then Oper.wp P o a w K Q else E := by
  subst hN
  have hw : Region.wanted o (yielded ops a.tmps) = true := by simp [Region.wanted, hgd]
  rw [if_pos hw]
  obtain ⟨v', w', h2, h3, h4, h5⟩ := run_append_src hE o.type H k hk hsrc hl h1 h63 hbytes
  have hlt : k < (L.set k (.row v' e size (n + m) (xs ++ news))).length := by rw [List.length_set]; exact (List.getElem?_eq_some_iff.1 hk).1
  have hrow : w'.ownsRow 0 e size v' (n + m) (xs ++ news) := h3.at k (A := .row v' e size (n + m) (xs ++ news)) (by rw [List.getElem?_set_self (by simpa using hlt)])
  obtain ⟨s', c', rfl⟩ := ownsRow_slice hrow
  unfold Oper.wp execOp
  simp only [ho, resolve, invoke, builtin, Sem.run_bind, Sem.run_pure, Result.andThen_ok, List.map_toArray, List.map_cons, List.map_nil, hs, hx, h2]
  exact h s' c' w' h3 h4
/-- The same at a plain region's list. -/
theorem wpList_append_src {ops : Array Oper} {rest : List Oper} {o : Oper} {a : Act} {Q : Exit → Act → World → Prop} (hgd : o.guard = none) (s x : Operand) (t : TypeId)
    (ho : o.op = .call { callee := .builtin .append, args := #[s, x], argTypes := #[t, t] }) {e : TypeId} {z : Value} {size bytes : Nat} (hE : Elem P t e z size bytes)
    (H : HS D W L w) (k : Nat) {v : Value} {n : Nat} {xs : List Value} (hk : L[k]? = some (.row v e size n xs)) (hs : a.eval s = v)
    {sa : Option Addr} {m c : Nat} {news : List Value} (hx : a.eval x = .slice sa m c) (hsrc : SrcOk w sa m c news) (hl : news.length = m * size) (h1 : ∀ y ∈ news, y.oneCell' = true) (h63 : n + m ≤ maxLen) (hbytes : (n + m) * bytes ≤ 140737488355328) {N : Nat} (hN : n + m = N)
    (h : ∀ s' c' w', HS D W (L.set k (.row (.slice s' N c') e size N (xs ++ news))) w' → w.grownBy w' v.ownBlock → wpList P ops Q rest (a.put o.dst (.slice s' N c')) w') : wpList P ops Q (o :: rest) a w :=
  wpList_plain hgd fun K hK => by
    have := step_append_src (ops := ops) (K := K) (Q := fun e a w => Q e a w) (E := True) hgd s x t ho hE H k hk hs hx hsrc hl h1 h63 hbytes hN fun s' c' w' h2 h3 => hK _ _ (h s' c' w' h2 h3)
    rwa [if_pos (by simp [Region.wanted, hgd])] at this
end
/-- What lies in memory, as append reads it. -/
theorem Lies.src {α : Type} [Inhabited α] {enc : α → List Value} {k : Nat} (hk : ∀ x, (enc x).length = k) (hpos : 0 < k) {w : World} {B c : Nat} {sa : Option Addr} {xs : List α} (hc : xs.length ≤ c) (hl : Lies w B sa k xs.length (fun j => enc xs[j]!)) (h0 : sa = none → c = 0) : SrcOk w sa xs.length c (xs.flatMap enc) := by
  cases sa with
  | none =>
    obtain rfl := h0 rfl
    have : xs.length = 0 := by omega
    exact .inl ⟨rfl, this, rfl⟩
  | some ad =>
    refine .inr ⟨ad, rfl, fun q y hq => ?_⟩
    have hq' : q < xs.length * k := by rw [← flat_len hk xs]; exact (List.getElem?_eq_some_iff.1 hq).1
    have hj : q / k < xs.length := Nat.div_lt_of_lt_mul (by rwa [Nat.mul_comm])
    obtain ⟨b, o, e, hb, hc2⟩ := hl.at hj
    injection e with e
    subst e
    have hr : q % k < (enc xs[q / k]!).length := by rw [hk]; exact Nat.mod_lt _ hpos
    have h1 : (enc xs[q / k]!)[q % k]? = some y := by
      have h2 := flat_get hk xs (q / k) (q % k) ((enc xs[q / k]!)[q % k]'hr) hj (List.getElem?_eq_getElem hr)
      rw [show q / k * k + q % k = q by rw [Nat.mul_comm]; exact Nat.div_add_mod q k, hq] at h2
      rw [List.getElem?_eq_getElem hr]; exact h2.symm
    have h3 := hc2 _ _ h1
    rw [Nat.add_assoc, show q / k * k + q % k = q by rw [Nat.mul_comm]; exact Nat.div_add_mod q k] at h3
    have hadd : (⟨b, o, none⟩ : Addr).add q = ⟨b, o + q, none⟩ := by unfold Addr.add; split <;> simp_all
    rw [hadd]
    exact h3
theorem pgC_one (xs : List Pg) : ∀ y ∈ xs.flatMap pgC, y.oneCell' = true := fun y hy => by
  obtain ⟨x, hx, h⟩ := List.mem_flatMap.1 hy
  simp only [pgC, List.mem_cons, List.mem_nil_iff, or_false] at h
  rcases h with rfl | rfl | rfl <;> rfl
theorem iC_one (xs : List Int) : ∀ y ∈ xs.flatMap iC, y.oneCell' = true := fun y hy => by
  obtain ⟨x, hx, h⟩ := List.mem_flatMap.1 hy
  simp only [iC, List.mem_cons, List.mem_nil_iff, or_false] at h
  rcases h with rfl; rfl
theorem rcopyOne_any {q : Pv} (hx : q.p.pages.length ≤ 1000 ∧ q.p.told.length ≤ 1000) (w : World) (hl : PvAt w w.heap.size q) :
    Calls Try.prog 63 #[vPr q] w (fun x w' => ∃ s1 c1 s2 c2, x = .returned (vPr ⟨q.p, .slice s1 q.p.pages.length c1, .slice s2 q.p.told.length c2⟩) ∧ HS NoD w [Item.many (innerR ⟨q.p, .slice s1 q.p.pages.length c1, .slice s2 q.p.told.length c2⟩)] w') := by
  obtain ⟨⟨pi, pt, pd, pg, td⟩, pa, ta⟩ := q
  obtain ⟨⟨pb, pc, e1, hpc, hpl⟩, ⟨tb, tc, e2, htc, htl⟩⟩ := hl
  have f1 : pa = .slice pb pg.length pc := e1
  have f2 : ta = .slice tb td.length tc := e2
  clear e1 e2
  subst f1 f2
  obtain ⟨hx1, hx2⟩ := hx
  have hx1 : pg.length ≤ 1000 := hx1
  have hx2 : td.length ≤ 1000 := hx2
  have HPG : Hid (Lies w w.heap.size pb 3 pg.length (fun j => pgC pg[j]!)) := hpl
  have HTD : Hid (Lies w w.heap.size tb 1 td.length (fun j => iC td[j]!)) := htl
  have HPC := Lib.hid hpc
  have HTC := Lib.hid htc
  clear hpl htl hpc htc
  show Calls Try.prog 63 #[.agg #[.int .i64 pi, .bool pt, .bool pd, .slice pb pg.length pc, .slice tb td.length tc]] w _
  go_enter Try.func63, Try.ntmps63
  have H := HS.start NoD w
  go_upto_region 1 with fail
  generalize hwb : (w.alloc _).alloc _ = w1
  replace H := HS.eqW hwb H.alloc.alloc
  try simp only [World.size_alloc, List.nil_append, List.cons_append, List.append_assoc] at H
  clear hwb
  generalize w.heap.size + 1 = bR at H ⊢
  generalize w.heap.size = bX at H ⊢
  try clear C
  have C := H.cells
  try simp only [cellsOf, cellsM, apartOf, apartM, and_true] at C
  have hn := (H.nilRow 37 3).nilRow 3 1
  clear H
  have H := hn
  clear hn
  try simp only [List.nil_append, List.cons_append] at H
  go_region_law (first
    | (refine step_append_src (hgd := rfl) (s := .const (.slice none 0 0)) (x := .tmp 4) (t := 29) (ho := rfl) (hE := elemPg) (H := H.drew) (k := 2) (hk := rfl) (hs := rfl) (sa := pb) (m := pg.length) (c := pc) (news := pg.flatMap pgC) (hx := by simp [Act.eval, Act.put]) (hsrc := Lies.src pgC_len (by decide) HPC.out.1 (H.drew.lies HPG.out) HPC.out.2) (hl := flat_len pgC_len pg) (h1 := pgC_one pg) (h63 := by unfold maxLen; omega) (hbytes := by omega) (N := pg.length) (hN := Nat.zero_add _) (h := fun s1 c1 wa H1 hg1 => ?_); have C1 := H1.cells; simp only [List.nil_append, List.cons_append, List.append_assoc, List.set_cons_succ, List.set_cons_zero, cellsOf, cellsM, apartOf, apartM, and_true] at H1 C1; clear hg1)
    | (refine step_append_src (hgd := rfl) (s := .const (.slice none 0 0)) (x := .tmp 7) (t := 22) (ho := rfl) (hE := elemN) (H := H1) (k := 3) (hk := rfl) (hs := rfl) (sa := tb) (m := td.length) (c := tc) (news := td.flatMap iC) (hx := by simp [Act.eval, Act.put]) (hsrc := Lies.src iC_len (by decide) HTC.out.1 (H1.lies HTD.out) HTC.out.2) (hl := flat_len iC_len td) (h1 := iC_one td) (h63 := by unfold maxLen; omega) (hbytes := by omega) (N := td.length) (hN := Nat.zero_add _) (h := fun s2 c2 wb H2 hg2 => ?_); have C2 := H2.cells; simp only [List.nil_append, List.cons_append, List.append_assoc, List.set_cons_succ, List.set_cons_zero, cellsOf, cellsM, apartOf, apartM, and_true] at H2 C2; clear hg2))
  all_goals
    go_step
    clear C C1 C2 H H1
    have H := (H2.setTo (o := 3) (v := .slice s1 pg.length c1) 0 rfl rfl).setTo (o := 4) (v := .slice s2 td.length c2) 0 rfl rfl
    clear H2
    generalize hwb : World.setCell (World.setCell _ _ _) _ _ = w9 at H ⊢
    clear hwb
    skip
    have H : HS NoD w [.blk bX #[.int .i64 pi, .bool pt, .bool pd, .slice s1 pg.length c1, .slice s2 td.length c2] 31, .blk bR #[.int .i64 0, .bool false, .bool false, .slice none 0 0, .slice none 0 0] 31, .row (.slice s1 pg.length c1) 37 3 pg.length (pg.flatMap pgC), .row (.slice s2 td.length c2) 3 1 td.length (td.flatMap iC)] w9 := H
    try clear C
    try simp only [World.size_alloc, List.nil_append, List.cons_append, List.append_assoc] at H
    have C := H.cells
    try simp only [cellsOf, cellsM, apartOf, apartM, and_true] at C
    go_wp2_with fail
    generalize hwb : ((((w9.setCell _ _).setCell _ _).setCell _ _).setCell _ _).setCell _ _ = w2
    replace H := HS.eqW hwb (H.putAll (i := 1) rfl (vs := [.int .i64 pi, .bool pt, .bool pd, .slice s1 pg.length c1, .slice s2 td.length c2]) rfl rfl)
    simp only [List.nil_append, List.cons_append, List.append_assoc, List.set_cons_succ, List.set_cons_zero] at H
    clear hwb
    try clear C
    try clear w9
    have C := H.cells
    try simp only [cellsOf, cellsM, apartOf, apartM, and_true] at C
    refine bodyPost_ret (by simp [results, Try.results63, go_sem, C]; try rfl) rfl ?_
    exact ⟨s1, c1, s2, c2, rfl, HS.less (H.toMany (L := [_, _]) (R := [_, _]) (fun A hA => by simp only [List.mem_cons, List.mem_nil_iff, or_false] at hA; rcases hA with rfl | rfl <;> rfl)) (by repeat (first | exact .slnil | refine .cons_cons _ ?_ | refine .cons _ ?_))⟩
theorem HS.shutPs {D : Nat → Prop} {W w : World} {L : List Item} {v : Value} {qs : List Pv} (h : HS D W (L ++ [outerR v qs, Item.many (qs.flatMap innerR)]) w) : HS D W (L ++ [Item.many (PsR v qs)]) w := by
  have h1 : HS D W ((L ++ [outerR v qs]) ++ [Item.many (qs.flatMap innerR)]) w := by simpa using h
  have h2 := h1.ofMany
  rw [List.append_assoc] at h2
  exact HS.toMany (R := PsR v qs) h2 PsR_low
theorem HS.pvUp {W w : World} {L : List Item} (h : HS NoD W L w) {q : Pv} (hl : PvAt W W.heap.size q) : PvAt w w.heap.size q := ⟨h.slUp hl.1, h.slUp hl.2⟩
theorem flat_one {qs : List Pv} {q : Pv} {α : Type} {f : Pv → List α} : (qs ++ [q]).flatMap f = qs.flatMap f ++ f q := by simp
theorem smallQ {ps : List Pr} {qs : List Pv} (h : SmallP ps) (e : qs.map (·.p) = ps) {j : Nat} (hj : j < qs.length) : (qs[j]!).p.pages.length ≤ 1000 ∧ (qs[j]!).p.told.length ≤ 1000 :=
  h.2 _ (by rw [← e]; exact List.mem_map.2 ⟨_, mem_at hj, rfl⟩)
set_option maxHeartbeats 4000000 in
theorem rcopy_any {v : Value} {ps : List Pr} (hx : SmallP ps) (w : World) (hl : Ps w w.heap.size v ps) :
    Calls Try.prog 22 #[v] w (GivesP (fun v => v) ps w) := by
  obtain ⟨qs, hqs, ⟨sa, c, rfl, hc, hl⟩, hi⟩ := hl
  have hx1 : qs.length ≤ 1000 := by have := hx.1; rw [← hqs] at this; simpa using this
  have HSM := Lib.hid (fun j => smallQ (j := j) hx hqs)
  have HL := Lib.hid hl
  have HI := Lib.hid hi
  have HQS := Lib.hid hqs
  clear hl hi hx hqs hc
  go_enter Try.func22, Try.ntmps22
  have H := HS.start NoD w
  go_wp2_with fail
  have hn := (H.nilRow 31 5).toMany (R := []) (L := [_]) (fun A hA => by cases hA)
  clear H
  have H := hn
  clear hn
  try simp only [List.nil_append, List.cons_append] at H
  go_loopw [3, 8] (fun u i wr => ∃ (j : Nat) (rs : List Pv), i = .int .i64 j ∧ j ≤ qs.length ∧ Hid (rs.length = j) ∧ Hid (rs.map (·.p) = (qs.take j).map (·.p)) ∧ HS NoD w [.row u 31 5 rs.length (rs.flatMap pvC), Item.many (rs.flatMap innerR)] wr) (fun _ i _ => qs.length - (intOf i).toNat)
  case atStart => exact ⟨0, [], rfl, Nat.zero_le _, rfl, rfl, H⟩
  case round =>
    clear H
    obtain ⟨j, rs, rfl, hj, hrl, HR, H⟩ := hrel
    rename_i u _ _
    skip
    by_cases hlt : j < qs.length
    · have hsm := HSM.out j hlt
      obtain ⟨b, o, e0, hb, hc⟩ := (H.lies HL.out).at hlt
      cases e0
      have HM := Lib.hid (map_at hlt)
      have hpv := HI.out _ (mem_at hlt)
      obtain ⟨q, hxj⟩ : ∃ q, q = qs[j]! := ⟨_, rfl⟩
      rw [← hxj] at hc hpv
      have HX := Lib.hid hxj
      obtain ⟨⟨pi, pt, pd, pg, td⟩, pa, ta⟩ := q
      obtain ⟨⟨pb, pc, e1, hpc, hpl⟩, ⟨tb, tc, e2, htc, htl⟩⟩ := hpv
      have f1 : pa = .slice pb pg.length pc := e1
      have f2 : ta = .slice tb td.length tc := e2
      clear e1 e2
      subst f1 f2
      have HPG : Hid (Lies w w.heap.size pb 3 pg.length (fun j => pgC pg[j]!)) := hpl
      have HTD : Hid (Lies w w.heap.size tb 1 td.length (fun j => iC td[j]!)) := htl
      have HPC : Hid (pg.length ≤ pc ∧ (pb = none → pc = 0)) := hpc
      have HTC : Hid (td.length ≤ tc ∧ (tb = none → tc = 0)) := htc
      clear hpc htc
      clear hpl htl
      have c0 : wr.cell? ⟨b, o + j * 5, none⟩ = some (.int .i64 pi) := hc 0 _ rfl
      have c1 : wr.cell? ⟨b, o + j * 5 + 1, none⟩ = some (.bool pt) := hc 1 _ rfl
      have c2 : wr.cell? ⟨b, o + j * 5 + 2, none⟩ = some (.bool pd) := hc 2 _ rfl
      have c3 : wr.cell? ⟨b, o + j * 5 + 3, none⟩ = some (.slice pb pg.length pc) := hc 3 _ rfl
      have c4 : wr.cell? ⟨b, o + j * 5 + 4, none⟩ = some (.slice tb td.length tc) := hc 4 _ rfl
      clear hc hxj
      rw [← HX.out] at hsm
      have hs1 : pg.length ≤ 1000 := hsm.1
      have hs2 : td.length ≤ 1000 := hsm.2
      have hrs : rs.length ≤ 1000 := by have := hrl.out; omega
      clear hsm
      go_upto_region 5 with fail
      generalize hwb : wr.alloc _ = w1
      replace H := HS.eqW hwb H.alloc
      try simp only [World.size_alloc, List.nil_append, List.cons_append, List.append_assoc] at H
      clear hwb
      generalize wr.heap.size = bP at H ⊢
      try clear C
      try clear wr
      have C := H.cells
      try simp only [cellsOf, cellsM, apartOf, apartM, and_true] at C
      go_wp2_with fail
      refine (rcopyOne_any (q := ⟨⟨pi, pt, pd, pg, td⟩, .slice pb pg.length pc, .slice tb td.length tc⟩) ⟨hs1, hs2⟩ _ ⟨⟨pb, pc, rfl, HPC.out, H.liesUp HPG.out⟩, ⟨tb, tc, rfl, HTC.out, H.liesUp HTD.out⟩⟩).mono ?_
      rintro _ w2 ⟨s1, d1, s2, d2, rfl, K⟩
      replace H := H.join1 K
      clear K
      dsimp only [vPr]
      skip
      try clear C
      try simp only [World.size_alloc, List.nil_append, List.cons_append, List.append_assoc] at H
      have C := H.cells
      try simp only [cellsOf, cellsM, apartOf, apartM, and_true] at C
      go_wp2_with (at_builtin; refine wpList_append_H rfl (.tmp 12) (.tmp 15) 25 rfl elemPr H.alloc 0 rfl rfl 4 rfl rfl rfl rfl (by decide) (by unfold maxLen; omega) (by omega) (fun g cap wz HZ => ?_); clear H C)
      go_roundw
      case rel =>
        refine ⟨j + 1, rs ++ [⟨⟨pi, pt, pd, pg, td⟩, .slice s1 pg.length d1, .slice s2 td.length d2⟩], by go_num, by omega, (show Hid _ from by show List.length _ = _; simp [hrl.out]), (show Hid _ from ?_), ?_⟩
        · show List.map _ _ = _
          rw [take_snoc hlt, List.map_append, List.map_append, HR.out, ← HX.out]
          rfl
        · rw [List.length_append, flat_one, flat_one]
          exact HS.manyJoin (L := [_]) (HZ.less (by repeat (first | exact .slnil | refine .cons_cons _ ?_ | refine .cons _ ?_)))
      case measure => simp [intOf]; omega
    · have hje : j = qs.length := by omega
      have e : rs.map (·.p) = ps := by rw [HR.out, List.take_of_length_le (by omega), HQS.out]
      obtain ⟨sb, d, rfl⟩ := ownsRow_slice (H.at 0 rfl)
      go_wp2_with fail
      go_ret
      exact ⟨.slice sb rs.length d, rs, rfl, e, HS.shutPs (L := []) H⟩
end Go.Proofs.Ytmnddnlabdafcaa
