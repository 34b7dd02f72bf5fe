/- Programs (memfaultref29): parts of slices as sources; a program's pages replaced; Map. -/
import Derived.Test.YtedbpmckgiifpaaGreatJ4
import Derived.Test.YtedbpmckgiifpaaGreatJ3
namespace Go.Proofs.YtedbpmckgiifpaaGreat
set_option linter.unusedSimpArgs false
set_option linter.unusedVariables false
open Go.RowKit
set_option maxRecDepth 100000
attribute [local go_sem] lt_more ne_more ne_more'
attribute [local irreducible] wpX wpF Calls

theorem flatTake {α : Type} {enc : α → List Value} {k : Nat} (hk : ∀ x, (enc x).length = k) : ∀ (xs : List α) (i : Nat), (xs.flatMap enc).take (i * k) = (xs.take i).flatMap enc
  | [], i => by simp
  | x :: xs, 0 => by simp
  | x :: xs, i + 1 => by
    rw [List.flatMap_cons, List.take_succ_cons, List.flatMap_cons, Nat.succ_mul, Nat.add_comm, ← flatTake hk xs i]
    rw [← hk x, List.take_length_add_append]
theorem flatDrop {α : Type} {enc : α → List Value} {k : Nat} (hk : ∀ x, (enc x).length = k) : ∀ (xs : List α) (i : Nat), (xs.flatMap enc).drop (i * k) = (xs.drop i).flatMap enc
  | [], i => by simp
  | x :: xs, 0 => by simp
  | x :: xs, i + 1 => by
    rw [List.flatMap_cons, List.drop_succ_cons, Nat.succ_mul, Nat.add_comm, ← flatDrop hk xs i]
    rw [← hk x, List.drop_length_add_append]
/-- The beginning of what lies in memory, as append reads it. -/
theorem Lies.srcPre {α : Type} [Inhabited α] {enc : α → List Value} {k : Nat} (hk : ∀ x, (enc x).length = k) (hpos : 0 < k) {w : World} {B c : Nat} {sa : Option Addr} {xs : List α} (hc : xs.length ≤ c ∧ (sa = none → c = 0)) (hl : Lies w B sa k xs.length (fun j => enc xs[j]!)) {i : Nat} (hi : i ≤ xs.length) : SrcOk w sa i c ((xs.take i).flatMap enc) ∧ ((xs.take i).flatMap enc).length = i * k := by
  have hz : (xs.take i).length = i := by rw [List.length_take]; omega
  have := Lies.src hk hpos (c := c) (by rw [hz]; omega) (hl.take hi) hc.2
  rw [hz] at this
  exact ⟨this, by rw [flat_len hk, hz]⟩
/-- The rest of it. -/
theorem Lies.srcPart {α : Type} [Inhabited α] {enc : α → List Value} {k : Nat} (hk : ∀ x, (enc x).length = k) (hpos : 0 < k) {w : World} {B c : Nat} {sa : Option Addr} {xs : List α} (hc : xs.length ≤ c ∧ (sa = none → c = 0)) (hl : Lies w B sa k xs.length (fun j => enc xs[j]!)) {i : Nat} (hi : i ≤ xs.length) :
    SrcOk w (if c = i then sa else sa.map (·.add (i * k))) (xs.length - i) (c - i) ((xs.drop i).flatMap enc) ∧ ((xs.drop i).flatMap enc).length = (xs.length - i) * k := by
  refine ⟨?_, by rw [flat_len hk, List.length_drop]⟩
  have hs := Lies.src hk hpos hc.1 hl hc.2
  cases sa with
  | none =>
    have := hc.2 rfl
    exact .inl ⟨by split <;> rfl, by omega, by omega⟩
  | some ad =>
    rcases hs with ⟨h, -⟩ | ⟨ad', e, hs⟩
    · cases h
    · cases e
      by_cases hci : c = i
      · refine .inr ⟨ad, by rw [if_pos hci], fun q y hq => ?_⟩
        have : q < ((xs.drop i).flatMap enc).length := (List.getElem?_eq_some_iff.1 hq).1
        rw [flat_len hk, List.length_drop, show xs.length - i = 0 by omega, Nat.zero_mul] at this
        omega
      · refine .inr ⟨ad.add (i * k), by rw [if_neg hci]; rfl, fun q y hq => ?_⟩
        rw [← flatDrop hk, List.getElem?_drop] at hq
        have := hs _ _ hq
        rwa [Addr.add_add]
theorem flat_split {qs : List Pv} {i : Nat} (hi : i < qs.length) {α : Type} (f : Pv → List α) : qs.flatMap f = (qs.take i).flatMap f ++ (f qs[i]! ++ (qs.drop (i + 1)).flatMap f) := by
  have e : qs = qs.take i ++ (qs[i]! :: qs.drop (i + 1)) := by rw [getElem!_pos qs i hi, ← List.drop_eq_getElem_cons hi, List.take_append_drop]
  have := congrArg (List.flatMap f) e
  rw [List.flatMap_append, List.flatMap_cons] at this
  exact this
theorem flat_set_split {qs : List Pv} {i : Nat} (hi : i < qs.length) (q : Pv) {α : Type} (f : Pv → List α) : (qs.set i q).flatMap f = (qs.take i).flatMap f ++ (f q ++ (qs.drop (i + 1)).flatMap f) := by
  rw [List.set_eq_take_append_cons_drop, if_pos hi, List.flatMap_append, List.flatMap_cons]
section
variable {D : Nat → Prop} {W w : World} {L : List Item}
/-- A program's pages are another slice. -/
theorem HS.pageSwap {qs : List Pv} {i : Nat} (q : Pv) (h : HS D W (L ++ [Item.many (qs.flatMap innerR), .row q.pa 49 3 q.p.pages.length (q.p.pages.flatMap pgC)]) w) (hi : i < qs.length) (ht : q.ta = (qs[i]!).ta) (hd : q.p.told = (qs[i]!).p.told) : HS D W (L ++ [Item.many ((qs.set i q).flatMap innerR)]) w := by
  generalize hX : Item.row q.pa 49 3 q.p.pages.length (q.p.pages.flatMap pgC) = X at h
  have h1 : HS D W ((L ++ [X]) ++ [Item.many (qs.flatMap innerR)]) w := h.permu (by rw [List.append_assoc]; exact List.Perm.append_left _ (List.Perm.swap _ _ _))
  have h0 := low_ofMany h1
  have h2 := h1.ofMany
  rw [flat_split hi] at h2
  rw [flat_split hi] at h0
  generalize hA : (qs.take i).flatMap innerR = A at h2 h0
  generalize hC : (qs.drop (i + 1)).flatMap innerR = C at h2 h0
  have h3 : HS D W ((L ++ [X]) ++ (A ++ ([Item.row (qs[i]!).ta 3 1 (qs[i]!).p.told.length ((qs[i]!).p.told.flatMap iC)] ++ C))) w := h2.less (by
    refine List.Sublist.append_left (List.Sublist.append_left (List.Sublist.append_right ?_ _) _) _
    exact List.Sublist.cons _ (List.Sublist.refl _))
  have e : (qs.set i q).flatMap innerR = (qs.take i).flatMap innerR ++ ([X, .row (qs[i]!).ta 3 1 (qs[i]!).p.told.length ((qs[i]!).p.told.flatMap iC)] ++ C) := by
    rw [flat_set_split hi, hC, ← hX, ← ht, ← hd]
    rfl
  rw [e, hA]
  have hp : ((L ++ [X]) ++ (A ++ ([Item.row (qs[i]!).ta 3 1 (qs[i]!).p.told.length ((qs[i]!).p.told.flatMap iC)] ++ C))).Perm (L ++ (A ++ ([X, .row (qs[i]!).ta 3 1 (qs[i]!).p.told.length ((qs[i]!).p.told.flatMap iC)] ++ C))) := by
    rw [List.append_assoc]
    exact List.Perm.append_left _ (show (X :: (A ++ (Item.row (qs[i]!).ta 3 1 (qs[i]!).p.told.length ((qs[i]!).p.told.flatMap iC) :: C))).Perm (A ++ X :: Item.row (qs[i]!).ta 3 1 (qs[i]!).p.told.length ((qs[i]!).p.told.flatMap iC) :: C) from List.perm_middle.symm)
  refine HS.toMany (h3.permu hp) fun B hB => ?_
  rcases List.mem_append.1 hB with hB | hB
  · exact h0 B (by simp [hB])
  · rcases List.mem_append.1 hB with hB | hB
    · simp only [List.mem_cons, List.mem_nil_iff, or_false] at hB
      rcases hB with rfl | rfl
      · rw [← hX]; rfl
      · rfl
    · exact h0 B (by simp [hB])
theorem HS.nilPs (h : HS D W L w) : HS D W (L ++ [Item.many (PsR (.slice none 0 0) [])]) w := HS.toMany (R := PsR (.slice none 0 0) []) (h.nilRow 52 5) PsR_low
end
theorem givesP_nil {W w : World} {L : List Item} (H : HS NoD W L w) (mk : Value → Value) : GivesP mk [] W (.returned (mk (.slice none 0 0))) w :=
  ⟨_, [], rfl, rfl, HS.less H.nilPs (List.sublist_append_right _ _)⟩
theorem ownsRow_ptr {w : World} {B k n c : Nat} {e : TypeId} {sa : Option Addr} {cs : List Value} (h : w.ownsRow B e k (.slice sa n c) n cs) (hn : 0 < n) : ∃ g, sa = some ⟨g, 0, none⟩ ∧ g < w.heap.size ∧ n ≤ c := by
  rcases h.2 with ⟨h2, h3⟩ | ⟨g, cap, cur, hv, hg, hh, r⟩
  · omega
  · injection hv with e1 e2 e3
    subst e3
    exact ⟨g, e1, lt_of_heap hh, r.1⟩
theorem takeWhile_at {α : Type} [Inhabited α] {p : α → Bool} : ∀ {xs : List α} {k : Nat}, k ≤ xs.length → (∀ m, m < k → p xs[m]! = true) → (k < xs.length → p xs[k]! = false) → xs.takeWhile p = xs.take k ∧ xs.dropWhile p = xs.drop k
  | [], k, hk, _, _ => by simp
  | x :: xs, 0, hk, _, h2 => by
    have : p x = false := by simpa using h2 (by simp)
    simp [List.takeWhile_cons, List.dropWhile_cons, this]
  | x :: xs, k + 1, hk, h1, h2 => by
    have hx : p x = true := by simpa using h1 0 (by omega)
    have := takeWhile_at (p := p) (xs := xs) (k := k) (by simpa using hk) (fun m hm => by simpa using h1 (m + 1) (by omega)) (fun h => by simpa using h2 (by simpa using h))
    simp [List.takeWhile_cons, List.dropWhile_cons, hx, this]
def range2 (n f : Int) : Prop := n < 0 ∨ 999 < n ∨ f < 0 ∨ 64 ≤ f
set_option maxHeartbeats 8000000 in
theorem rmap_any (id n f : Int) {v : Value} {ps : List Pr} (hx : SmallP ps) (w : World) (hl : Ps w w.heap.size v ps) :
    Calls Tryz.prog 37 #[v, .int .i64 id, .int .i64 n, .int .i64 f] w (GivesP (fun v => .tuple #[v, .int .i64 (mapP ps id n f).1]) (mapP ps id n f).2 w) := by
  have HA := Lib.hid (fun w h => rat_any id (v := v) hx.1 w h)
  have HUN := Lib.hid (fun w h => runused_any f (v := v) hx w h)
  have HCP := Lib.hid (fun w h => rcopy_any (v := v) hx w h)
  have HPS := Lib.hid hl
  obtain ⟨qs, hqs, ⟨sa, c, rfl, hc, hl⟩, hi⟩ := hl
  have hx1 : qs.length ≤ 1000 := by have := hx.1; rw [← hqs] at this; simpa using this
  have HSM := Lib.hid (fun j => smallQ (j := j) hx hqs)
  have HL := Lib.hid hl
  have HI := Lib.hid hi
  have HQS := Lib.hid hqs
  obtain ⟨R, hR⟩ : ∃ R, R = mapP ps id n f := ⟨_, rfl⟩
  rw [← hR]
  have HR := Lib.hid hR
  clear hl hi hx hqs hc hR
  cases hi : ps.findIdx? (live id) with
  | none =>
    rw [hi] at HA
    dsimp only [idx?] at HA
    have HE := Lib.hid (HR.out.trans (show _ = ((42 : Int), ([] : List Pr)) by unfold mapP; rw [hi]))
    clear hi HR HUN HCP HSM
    go_enter Tryz.func37, Tryz.ntmps37
    have H := HS.start NoD w
    go_wp2_with fail
    refine (HA.out _ (H.psUp HPS.out)).mono ?_
    rintro _ w1 ⟨rfl, hb⟩
    replace H := H.below hb
    clear hb
    try clear C
    try simp only [World.size_alloc, List.nil_append, List.cons_append, List.append_assoc] at H
    have C := H.cells
    try simp only [cellsOf, cellsM, apartOf, apartM, and_true] at C
    dsimp only
    go_wp2_with fail
    refine bodyPost_ret (by simp [results, Tryz.results37, go_sem, C]; try rfl) rfl ?_
    rw [HE.out]
    exact givesP_nil H _
  | some i =>
    rw [hi] at HA
    dsimp only [idx?] at HA
    have hlt : i < qs.length := by have := (findIdx_some hi).1; rw [← HQS.out] at this; simpa using this
    have hsm := HSM.out i hlt
    obtain ⟨b, o, e0, hb, hc⟩ := HL.out.at hlt
    cases e0
    have HM := Lib.hid (map_at hlt)
    have hpv := HI.out _ (mem_at hlt)
    obtain ⟨q, hxj⟩ : ∃ q, q = qs[i]! := ⟨_, rfl⟩
    rw [← hxj] at hc hpv
    have HX := Lib.hid hxj
    obtain ⟨⟨pi, pt, pd, pg, td⟩, pa, ta⟩ := q
    obtain ⟨⟨pb, pc, e1, hpc, hpl⟩, ⟨tb, tc, e2, htc, htl⟩⟩ := hpv
    have f1 : pa = .slice pb pg.length pc := e1
    have f2 : ta = .slice tb td.length tc := e2
    clear e1 e2
    subst f1 f2
    have HPG : Hid (Lies w w.heap.size pb 3 pg.length (fun j => pgC pg[j]!)) := hpl
    have HTD : Hid (Lies w w.heap.size tb 1 td.length (fun j => iC td[j]!)) := htl
    have HPC : Hid (pg.length ≤ pc ∧ (pb = none → pc = 0)) := hpc
    have HTC : Hid (td.length ≤ tc ∧ (tb = none → tc = 0)) := htc
    clear hpc htc
    clear hpl htl
    have HC0 : Hid (w.cell? ⟨b, o + i * 5, none⟩ = some (.int .i64 pi)) := hc 0 _ rfl
    have HC1 : Hid (w.cell? ⟨b, o + i * 5 + 1, none⟩ = some (.bool pt)) := hc 1 _ rfl
    have HC2 : Hid (w.cell? ⟨b, o + i * 5 + 2, none⟩ = some (.bool pd)) := hc 2 _ rfl
    have HC3 : Hid (w.cell? ⟨b, o + i * 5 + 3, none⟩ = some (.slice pb pg.length pc)) := hc 3 _ rfl
    have HC4 : Hid (w.cell? ⟨b, o + i * 5 + 4, none⟩ = some (.slice tb td.length tc)) := hc 4 _ rfl
    have HB := Lib.hid hb
    clear hc hxj hb
    rw [← HX.out] at hsm
    have hs1 : pg.length ≤ 1000 := hsm.1
    clear hsm HSM
    have HPE := Lib.hid (show ps[i]! = ⟨pi, pt, pd, pg, td⟩ by rw [← HQS.out, HM.out, ← HX.out])
    have HF := Lib.hid (show R = (if n < 0 ∨ 999 < n ∨ f < 0 ∨ 64 ≤ f then (2, []) else if pg.any (numb n) = true then (8, []) else if usedB ps f = true then (43, []) else if 16 ≤ pg.length then (16, []) else (0, ps.set i ⟨pi, pt, pd, insPg pg ⟨n, f, false⟩, td⟩)) by rw [HR.out]; unfold mapP; rw [hi]; dsimp only; rw [HPE.out])
    clear hi HR
    by_cases hr : n < 0 ∨ 999 < n ∨ f < 0 ∨ 64 ≤ f
    · have HE := Lib.hid (HF.out.trans (if_pos hr))
      have HRR := Lib.hid hr
      clear HF hr
      go_enter Tryz.func37, Tryz.ntmps37
      have H := HS.start NoD w
      go_wp2_with fail
      refine (HA.out _ (H.psUp HPS.out)).mono ?_
      rintro _ w1 ⟨rfl, hb⟩
      replace H := H.below hb
      clear hb
      try clear C
      try simp only [World.size_alloc, List.nil_append, List.cons_append, List.append_assoc] at H
      have C := H.cells
      try simp only [cellsOf, cellsM, apartOf, apartM, and_true] at C
      dsimp only
      by_cases r1 : n < 0
      · skip
        go_wp2_with fail
        refine bodyPost_ret (by simp [results, Tryz.results37, go_sem, C]; try rfl) rfl ?_
        rw [HE.out]
        exact givesP_nil H _
      · by_cases r2 : 999 < n
        · skip
          go_wp2_with fail
          refine bodyPost_ret (by simp [results, Tryz.results37, go_sem, C]; try rfl) rfl ?_
          rw [HE.out]
          exact givesP_nil H _
        · by_cases r3 : f < 0
          · skip
            go_wp2_with fail
            refine bodyPost_ret (by simp [results, Tryz.results37, go_sem, C]; try rfl) rfl ?_
            rw [HE.out]
            exact givesP_nil H _
          · have r4 : 64 ≤ f := by have := HRR.out; omega
            skip
            go_wp2_with fail
            refine bodyPost_ret (by simp [results, Tryz.results37, go_sem, C]; try rfl) rfl ?_
            rw [HE.out]
            exact givesP_nil H _
    · have HF2 := Lib.hid (HF.out.trans (if_neg hr))
      have hr1 : 0 ≤ n ∧ n ≤ 999 ∧ 0 ≤ f ∧ f < 64 := by omega
      clear HF hr
      have HPA := Lib.hid (fun w h => rpage_any n (q := ⟨⟨pi, pt, pd, pg, td⟩, .slice pb pg.length pc, .slice tb td.length tc⟩) hs1 w h)
      cases hk : pg.findIdx? (numb n) with
      | some k =>
        have e : (⟨⟨pi, pt, pd, pg, td⟩, .slice pb pg.length pc, .slice tb td.length tc⟩ : Pv).p.pages.findIdx? (numb n) = some k := hk
        rw [e] at HPA
        dsimp only [idx?] at HPA
        have HE := Lib.hid (HF2.out.trans (if_pos (by obtain ⟨a, b⟩ := findIdx_some hk; exact List.any_eq_true.2 ⟨_, mem_at a, b⟩)))
        clear HF2 hk e
        go_enter Tryz.func37, Tryz.ntmps37
        have H := HS.start NoD w
        go_wp2_with fail
        refine (HA.out _ (H.psUp HPS.out)).mono ?_
        rintro _ w1 ⟨rfl, hb⟩
        replace H := H.below hb
        clear hb
        try clear C
        try simp only [World.size_alloc, List.nil_append, List.cons_append, List.append_assoc] at H
        have C := H.cells
        try simp only [cellsOf, cellsM, apartOf, apartM, and_true] at C
        dsimp only
        try clear c0 c1 c2 c3 c4
        have c0 := (H.was HB.out (fun h => h)).trans HC0.out
        have c1 := (H.was HB.out (fun h => h)).trans HC1.out
        have c2 := (H.was HB.out (fun h => h)).trans HC2.out
        have c3 := (H.was HB.out (fun h => h)).trans HC3.out
        have c4 := (H.was HB.out (fun h => h)).trans HC4.out
        go_wp2_with fail
        refine (HPA.out _ ⟨⟨pb, pc, rfl, HPC.out, H.liesUp HPG.out⟩, ⟨tb, tc, rfl, HTC.out, H.liesUp HTD.out⟩⟩).mono ?_
        rintro _ w2 ⟨rfl, hb⟩
        replace H := H.below hb
        clear hb
        try clear C
        try simp only [World.size_alloc, List.nil_append, List.cons_append, List.append_assoc] at H
        try clear w1
        have C := H.cells
        try simp only [cellsOf, cellsM, apartOf, apartM, and_true] at C
        dsimp only
        go_wp2_with fail
        refine bodyPost_ret (by simp [results, Tryz.results37, go_sem, C]; try rfl) rfl ?_
        rw [HE.out]
        exact givesP_nil H _
      | none =>
        have e : (⟨⟨pi, pt, pd, pg, td⟩, .slice pb pg.length pc, .slice tb td.length tc⟩ : Pv).p.pages.findIdx? (numb n) = none := hk
        rw [e] at HPA
        dsimp only [idx?] at HPA
        have HF3 := Lib.hid (HF2.out.trans (if_neg (by rw [List.findIdx?_eq_none_iff] at hk; rw [List.any_eq_true]; rintro ⟨x, hx, h⟩; rw [hk x hx] at h; cases h)))
        clear HF2 hk e
        by_cases hu : usedB ps f = true
        · have HE := Lib.hid (HF3.out.trans (if_pos hu))
          rw [show leftP ps f = -1 by unfold leftP; rw [if_pos hu]] at HUN
          clear HF3 hu HCP
          go_enter Tryz.func37, Tryz.ntmps37
          have H := HS.start NoD w
          go_wp2_with fail
          refine (HA.out _ (H.psUp HPS.out)).mono ?_
          rintro _ w1 ⟨rfl, hb⟩
          replace H := H.below hb
          clear hb
          try clear C
          try simp only [World.size_alloc, List.nil_append, List.cons_append, List.append_assoc] at H
          have C := H.cells
          try simp only [cellsOf, cellsM, apartOf, apartM, and_true] at C
          dsimp only
          try clear c0 c1 c2 c3 c4
          have c0 := (H.was HB.out (fun h => h)).trans HC0.out
          have c1 := (H.was HB.out (fun h => h)).trans HC1.out
          have c2 := (H.was HB.out (fun h => h)).trans HC2.out
          have c3 := (H.was HB.out (fun h => h)).trans HC3.out
          have c4 := (H.was HB.out (fun h => h)).trans HC4.out
          go_wp2_with fail
          refine (HPA.out _ ⟨⟨pb, pc, rfl, HPC.out, H.liesUp HPG.out⟩, ⟨tb, tc, rfl, HTC.out, H.liesUp HTD.out⟩⟩).mono ?_
          rintro _ w2 ⟨rfl, hb⟩
          replace H := H.below hb
          clear hb
          try clear C
          try simp only [World.size_alloc, List.nil_append, List.cons_append, List.append_assoc] at H
          try clear w1
          have C := H.cells
          try simp only [cellsOf, cellsM, apartOf, apartM, and_true] at C
          dsimp only
          go_wp2_with fail
          refine (HUN.out _ (H.psUp HPS.out)).mono ?_
          rintro _ w3 ⟨rfl, hb⟩
          replace H := H.below hb
          clear hb
          try clear C
          try simp only [World.size_alloc, List.nil_append, List.cons_append, List.append_assoc] at H
          try clear w2
          have C := H.cells
          try simp only [cellsOf, cellsM, apartOf, apartM, and_true] at C
          dsimp only
          go_wp2_with fail
          refine bodyPost_ret (by simp [results, Tryz.results37, go_sem, C]; try rfl) rfl ?_
          rw [HE.out]
          exact givesP_nil H _
        · have HF4 := Lib.hid (HF3.out.trans (if_neg hu))
          rw [show leftP ps f = f by unfold leftP; rw [if_neg hu]] at HUN
          clear HF3 hu
          by_cases hfu : 16 ≤ pg.length
          · have HE := Lib.hid (HF4.out.trans (if_pos hfu))
            have hfu2 : (16 : Int) ≤ pg.length := by omega
            clear HF4 HCP
            go_enter Tryz.func37, Tryz.ntmps37
            have H := HS.start NoD w
            go_wp2_with fail
            refine (HA.out _ (H.psUp HPS.out)).mono ?_
            rintro _ w1 ⟨rfl, hb⟩
            replace H := H.below hb
            clear hb
            try clear C
            try simp only [World.size_alloc, List.nil_append, List.cons_append, List.append_assoc] at H
            have C := H.cells
            try simp only [cellsOf, cellsM, apartOf, apartM, and_true] at C
            dsimp only
            try clear c0 c1 c2 c3 c4
            have c0 := (H.was HB.out (fun h => h)).trans HC0.out
            have c1 := (H.was HB.out (fun h => h)).trans HC1.out
            have c2 := (H.was HB.out (fun h => h)).trans HC2.out
            have c3 := (H.was HB.out (fun h => h)).trans HC3.out
            have c4 := (H.was HB.out (fun h => h)).trans HC4.out
            go_wp2_with fail
            refine (HPA.out _ ⟨⟨pb, pc, rfl, HPC.out, H.liesUp HPG.out⟩, ⟨tb, tc, rfl, HTC.out, H.liesUp HTD.out⟩⟩).mono ?_
            rintro _ w2 ⟨rfl, hb⟩
            replace H := H.below hb
            clear hb
            try clear C
            try simp only [World.size_alloc, List.nil_append, List.cons_append, List.append_assoc] at H
            try clear w1
            have C := H.cells
            try simp only [cellsOf, cellsM, apartOf, apartM, and_true] at C
            dsimp only
            go_wp2_with fail
            refine (HUN.out _ (H.psUp HPS.out)).mono ?_
            rintro _ w3 ⟨rfl, hb⟩
            replace H := H.below hb
            clear hb
            try clear C
            try simp only [World.size_alloc, List.nil_append, List.cons_append, List.append_assoc] at H
            try clear w2
            have C := H.cells
            try simp only [cellsOf, cellsM, apartOf, apartM, and_true] at C
            dsimp only
            try clear c0 c1 c2 c3 c4
            have c0 := (H.was HB.out (fun h => h)).trans HC0.out
            have c1 := (H.was HB.out (fun h => h)).trans HC1.out
            have c2 := (H.was HB.out (fun h => h)).trans HC2.out
            have c3 := (H.was HB.out (fun h => h)).trans HC3.out
            have c4 := (H.was HB.out (fun h => h)).trans HC4.out
            go_wp2_with fail
            refine bodyPost_ret (by simp [results, Tryz.results37, go_sem, C]; try rfl) rfl ?_
            rw [HE.out]
            exact givesP_nil H _
          · have HE := Lib.hid (HF4.out.trans (if_neg hfu))
            have hfu2 : ¬ (16 : Int) ≤ pg.length := by omega
            clear HF4
            go_enter Tryz.func37, Tryz.ntmps37
            have H := HS.start NoD w
            go_wp2_with fail
            refine (HA.out _ (H.psUp HPS.out)).mono ?_
            rintro _ w1 ⟨rfl, hb⟩
            replace H := H.below hb
            clear hb
            try clear C
            try simp only [World.size_alloc, List.nil_append, List.cons_append, List.append_assoc] at H
            have C := H.cells
            try simp only [cellsOf, cellsM, apartOf, apartM, and_true] at C
            dsimp only
            try clear c0 c1 c2 c3 c4
            have c0 := (H.was HB.out (fun h => h)).trans HC0.out
            have c1 := (H.was HB.out (fun h => h)).trans HC1.out
            have c2 := (H.was HB.out (fun h => h)).trans HC2.out
            have c3 := (H.was HB.out (fun h => h)).trans HC3.out
            have c4 := (H.was HB.out (fun h => h)).trans HC4.out
            go_wp2_with fail
            refine (HPA.out _ ⟨⟨pb, pc, rfl, HPC.out, H.liesUp HPG.out⟩, ⟨tb, tc, rfl, HTC.out, H.liesUp HTD.out⟩⟩).mono ?_
            rintro _ w2 ⟨rfl, hb⟩
            replace H := H.below hb
            clear hb
            try clear C
            try simp only [World.size_alloc, List.nil_append, List.cons_append, List.append_assoc] at H
            try clear w1
            have C := H.cells
            try simp only [cellsOf, cellsM, apartOf, apartM, and_true] at C
            dsimp only
            go_wp2_with fail
            refine (HUN.out _ (H.psUp HPS.out)).mono ?_
            rintro _ w3 ⟨rfl, hb⟩
            replace H := H.below hb
            clear hb
            try clear C
            try simp only [World.size_alloc, List.nil_append, List.cons_append, List.append_assoc] at H
            try clear w2
            have C := H.cells
            try simp only [cellsOf, cellsM, apartOf, apartM, and_true] at C
            dsimp only
            try clear c0 c1 c2 c3 c4
            have c0 := (H.was HB.out (fun h => h)).trans HC0.out
            have c1 := (H.was HB.out (fun h => h)).trans HC1.out
            have c2 := (H.was HB.out (fun h => h)).trans HC2.out
            have c3 := (H.was HB.out (fun h => h)).trans HC3.out
            have c4 := (H.was HB.out (fun h => h)).trans HC4.out
            go_wp2_with fail
            refine (HCP.out _ (H.psUp HPS.out)).mono ?_
            rintro _ w4 ⟨v4, rs, rfl, hrs, K⟩
            replace H := H.join1 K
            clear K HCP HUN HPA HA c0 c1 c2 c3 c4
            try simp only [List.nil_append, List.cons_append] at H
            skip
            dsimp only
            have HRS := Lib.hid hrs
            clear hrs
            go_wp2_with fail
            go_loopw [12] (fun kk wr => ∃ (k : Nat), kk = .int .i64 k ∧ k ≤ pg.length ∧ Hid (∀ m, m < k → decide ((pg[m]!).n < n) = true) ∧ HS NoD w [Item.many (PsR v4 rs)] wr) (fun kk _ => pg.length - (intOf kk).toNat)
            case atStart => exact ⟨0, rfl, Nat.zero_le _, fun m hm => absurd hm (Nat.not_lt_zero _), H⟩
            case round =>
              clear H
              obtain ⟨k, rfl, hk, HK, H⟩ := hrel
              skip
              try clear c0 c1 c2 c3 c4
              have c0 := (H.was HB.out (fun h => h)).trans HC0.out
              have c1 := (H.was HB.out (fun h => h)).trans HC1.out
              have c2 := (H.was HB.out (fun h => h)).trans HC2.out
              have c3 := (H.was HB.out (fun h => h)).trans HC3.out
              have c4 := (H.was HB.out (fun h => h)).trans HC4.out
              by_cases hlk : k < pg.length
              · obtain ⟨bg, og, rfl, hbg, hcg⟩ := (H.lies HPG.out).at hlk
                obtain ⟨g, hxg⟩ : ∃ q, q = pg[k]! := ⟨_, rfl⟩
                rw [← hxg] at hcg
                have HG := Lib.hid hxg
                obtain ⟨xn, xf, xs⟩ := g
                have d0 : wr.cell? ⟨bg, og + k * 3, none⟩ = some (.int .i64 xn) := hcg 0 _ rfl
                have d1 : wr.cell? ⟨bg, og + k * 3 + 1, none⟩ = some (.int .i64 xf) := hcg 1 _ rfl
                have d2 : wr.cell? ⟨bg, og + k * 3 + 2, none⟩ = some (.bool xs) := hcg 2 _ rfl
                clear hcg hxg
                by_cases hn : xn < n
                · go_wp2_with fail
                  go_roundw
                  case rel =>
                    refine ⟨k + 1, by go_num, by omega, (show Hid _ from fun m hm => ?_), H⟩
                    rcases Nat.lt_succ_iff_lt_or_eq.1 hm with hm | rfl
                    · exact HK.out m hm
                    · rw [← HG.out]; exact decide_eq_true hn
                  case measure => simp [intOf]; omega
                · have HEX : k < pg.length → decide ((pg[k]!).n < n) = false := fun _ => by rw [← HG.out]; exact decide_eq_false hn
                  have HTW := Lib.hid (takeWhile_at (p := fun y => decide (y.n < n)) hk HK.out HEX)
                  clear HEX HK
                  go_upto_region 16 with fail
                  try clear d0 d1 d2
                  clear c0 c1 c2 c3 c4
                  replace H := (H.manyCons 0 rfl).nilRow 49 3
                  simp only [List.eraseIdx_cons_zero, List.nil_append, List.cons_append, outerR] at H
                  have hrl : rs.length = qs.length := by have := congrArg List.length (HRS.out.trans HQS.out.symm); simpa using this
                  have hir : i < rs.length := by omega
                  obtain ⟨sb, d4, rfl⟩ := ownsRow_slice (H.at 0 rfl)
                  obtain ⟨g4, rfl, hg4, hcap4⟩ := ownsRow_ptr (H.at 0 rfl) (by omega)
                  have HRL := Lib.hid hrl
                  clear hrl hg4
                  refine wp_region_hz (by kernel_rfl) [0, 1, 2, 3, 4, 5, 6, 7, 8, 9, 10, 11, 12, 13, 14, 15, 16, 17, 18, 19, 20, 21, 22, 23, 24] (by kernel_rfl) (by kernel_rfl) (by kernel_rfl) rfl (fun _ => False) (H) ?_
                  clear H; intro w4 H hz0
                  try clear C
                  try simp only [World.size_alloc, List.nil_append, List.cons_append, List.append_assoc] at H hz0 ⊢
                  clear hz0
                  try clear wr
                  have C := H.cells
                  try simp only [cellsOf, cellsM, apartOf, apartM, and_true] at C
                  have Z := H.zs
                  try simp only [ltsOf, ltsM, and_true] at Z
                  simp only [List.filterMap_cons, List.filterMap_nil, List.getElem?_toArray, List.getElem?_cons_zero, List.getElem?_cons_succ]
                  try clear c0 c1 c2 c3 c4
                  have c0 := (H.was HB.out (fun h => h)).trans HC0.out
                  have c1 := (H.was HB.out (fun h => h)).trans HC1.out
                  have c2 := (H.was HB.out (fun h => h)).trans HC2.out
                  have c3 := (H.was HB.out (fun h => h)).trans HC3.out
                  have c4 := (H.was HB.out (fun h => h)).trans HC4.out
                  have hb4 : b < w4.heap.size := Nat.lt_of_lt_of_le HB.out H.size
                  have hkc : (k : Int) ≤ pc := by have := HPC.out.1; omega
                  have hkl2 : (k : Int) ≤ pg.length := by omega
                  obtain ⟨sx, hsx⟩ : ∃ sx : Option Addr, sx = (if pc = k then (some ⟨bg, og, none⟩ : Option Addr) else (some ⟨bg, og, none⟩ : Option Addr).map (·.add (k * 3))) := ⟨_, rfl⟩
                  have HSX := Lib.hid hsx
                  clear hsx
                  (refine wpH_free rfl rfl rfl (fun _ _ => ?_); go_step; go_step)
                  (refine wpH_free rfl rfl rfl (fun _ _ => ?_); go_step; go_step)
                  (refine wpH_free rfl rfl rfl (fun _ _ => ?_); go_step; go_step)
                  (refine wpH_free rfl rfl rfl (fun _ _ => ?_); go_step; go_step)
                  (refine wpH_yield rfl rfl (.pointer (some ⟨b, o + i * 5, none⟩)) (fun w _ => by go_simp) ?_; go_simp)
                  (refine wpH_free rfl rfl rfl (fun _ _ => ?_); go_step; go_step)
                  (refine wpH_load rfl rfl rfl (by simp [Stay, OneD, NoD, *]) (by simp [*]) (fun _ _ => ?_); go_step; go_step)
                  (refine wpH_free rfl rfl rfl (fun _ _ => ?_); go_step; go_step)
                  (refine wpH_yield rfl rfl (.slice (some ⟨bg, og, none⟩ : Option Addr) k pc ) (fun w _ => by  (go_simp)) ?_; go_simp)
                  refine wpH_append rfl (.const (.slice none 0 0)) (.tmp 88) 50 rfl elemPg 2 rfl rfl (by simp [Value.ownBlock]) (fun _ h => h.1) rfl (fun w hc => (Lies.srcPre pgC_len (by decide) HPC.out (hc.hs.lies HPG.out) hk).1) (Lies.srcPre pgC_len (by decide) HPC.out (H.lies HPG.out) hk).2 (pgC_one _) (by unfold maxLen; omega) (by omega) (N := k) (Nat.zero_add k) (fun s1 c1 hs1 => ?_)
                  (refine wpH_free rfl rfl rfl (fun _ _ => ?_); go_step; go_step)
                  (refine wpH_free rfl rfl rfl (fun _ _ => ?_); go_step; go_step)
                  (refine wpH_free rfl rfl rfl (fun _ _ => ?_); go_step; go_step)
                  (refine wpH_lit rfl rfl #[.int .i64 n, .int .i64 f, .bool false]   49 1 (fun w => by kernel_rfl) (fun bL hbL nbL _ _ => ?_); go_simp; go_step)
                  refine wpH_append rfl (.tmp 89) (.tmp 93) 50 rfl elemPg 2 rfl rfl hs1 (fun _ h => h.1) rfl (fun w hc => src_lit (Fl.at _ _ _) hc) rfl (fun y hy => pgC_one [⟨n, f, false⟩] y (by simpa [pgC] using hy)) (by unfold maxLen; omega) (by omega) (N := k + 1) rfl (fun s2 c2 hs2 => ?_)
                  (refine wpH_free rfl rfl rfl (fun _ _ => ?_); go_step; go_step)
                  (refine wpH_free rfl rfl rfl (fun _ _ => ?_); go_step; go_step)
                  (refine wpH_yield rfl rfl (.pointer (some ⟨b, o + i * 5, none⟩)) (fun w _ => by go_simp) ?_; go_simp)
                  (refine wpH_free rfl rfl rfl (fun _ _ => ?_); go_step; go_step)
                  (refine wpH_load rfl rfl rfl (by simp [Stay, OneD, NoD, *]) (by simp [*]) (fun _ _ => ?_); go_step; go_step)
                  (refine wpH_free rfl rfl rfl (fun _ _ => ?_); go_step; go_step)
                  (refine wpH_yield rfl rfl (.slice sx (pg.length - k) (pc - k) ) (fun w _ => by  (rw [HSX.out]; go_simp)) ?_; go_simp)
                  refine wpH_append rfl (.tmp 94) (.tmp 101) 50 rfl elemPg 2 rfl rfl hs2 (fun _ h => h.1) rfl (fun w hc => by rw [HSX.out]; exact (Lies.srcPart pgC_len (by decide) HPC.out (hc.hs.lies HPG.out) hk).1) (Lies.srcPart pgC_len (by decide) HPC.out (H.lies HPG.out) hk).2 (pgC_one _) (by unfold maxLen; omega) (by omega) (N := pg.length + 1) (by omega) (fun s3 c3 hs3 => ?_)
                  (refine wpH_yield rfl rfl (.pointer (some ⟨g4, i * 5, none⟩)) (fun w _ => by go_simp) ?_; go_simp)
                  (refine wpH_free rfl rfl rfl (fun _ _ => ?_); go_step; go_step)
                  refine wpH_nil ?_
                  intro w5 hC
                  replace H := hC.hs
                  clear hC
                  try clear C
                  try clear Z
                  try simp only [List.nil_append, List.cons_append, List.append_assoc, List.set_cons_succ, List.set_cons_zero] at H
                  try clear w4
                  have C := H.cells
                  try simp only [cellsOf, cellsM, apartOf, apartM, and_true] at C
                  have hu9 := (H.rowCells 0 rfl (i * 5 + 3) (by omega)).1
                  have hf9 := (H.rowCells 0 rfl (i * 5 + 3) (by omega)).2
                  obtain ⟨u9, hu9'⟩ : ∃ u, (rs.flatMap pvC)[i * 5 + 3]? = some u := ⟨_, List.getElem?_eq_getElem (by rw [flat_len pvC_len]; omega)⟩
                  rw [hu9'] at hu9
                  clear hu9'
                  go_upto_region 17 with fail
                  clear hu9 hf9
                  generalize hwb : World.setCell _ _ _ = wf
                  have H9 := HS.eqW hwb (H.rowSet 0 rfl (i * 5 + 3) (.slice s3 (pg.length + 1) c3))
                  clear H C hwb
                  have hil : (insPg pg ⟨n, f, false⟩).length = pg.length + 1 := by
                    unfold insPg; rw [HTW.out.1, HTW.out.2, List.length_append, List.length_cons, List.length_take, List.length_drop]; omega
                  have hif : (insPg pg ⟨n, f, false⟩).flatMap pgC = (pg.take k).flatMap pgC ++ (Value.int .i64 n :: Value.int .i64 f :: Value.bool false :: (pg.drop k).flatMap pgC) := by
                    unfold insPg; rw [HTW.out.1, HTW.out.2, List.flatMap_append, List.flatMap_cons]; simp [pgC]
                  have hrp : (rs[i]!).p = ⟨pi, pt, pd, pg, td⟩ := by rw [← map_at hir, HRS.out]; exact HPE.out
                  have hpv : pvC (⟨⟨pi, pt, pd, insPg pg ⟨n, f, false⟩, td⟩, .slice s3 (pg.length + 1) c3, (rs[i]!).ta⟩ : Pv) = (pvC rs[i]!).set 3 (.slice s3 (pg.length + 1) c3) := by unfold pvC; rw [hrp]; rfl
                  have H : HS NoD w ([.row (.slice (some ⟨g4, 0, none⟩) rs.length d4) 52 5 (rs.set i ⟨⟨pi, pt, pd, insPg pg ⟨n, f, false⟩, td⟩, .slice s3 (pg.length + 1) c3, (rs[i]!).ta⟩).length ((rs.set i ⟨⟨pi, pt, pd, insPg pg ⟨n, f, false⟩, td⟩, .slice s3 (pg.length + 1) c3, (rs[i]!).ta⟩).flatMap pvC)] ++ [Item.many (rs.flatMap innerR), .row (.slice s3 (pg.length + 1) c3) 49 3 (insPg pg ⟨n, f, false⟩).length ((insPg pg ⟨n, f, false⟩).flatMap pgC)]) wf := by
                    rw [flat_set pvC_len rs i 3 _ _ hir (by decide) hpv, List.length_set, hil, hif]
                    exact H9
                  replace H := H.pageSwap (i := i) ⟨⟨pi, pt, pd, insPg pg ⟨n, f, false⟩, td⟩, .slice s3 (pg.length + 1) c3, (rs[i]!).ta⟩ hir rfl (by rw [hrp])
                  clear H9 hpv
                  skip
                  try clear C
                  try simp only [World.size_alloc, List.nil_append, List.cons_append, List.append_assoc] at H
                  have C := H.cells
                  try simp only [cellsOf, cellsM, apartOf, apartM, and_true] at C
                  go_wp2_with fail
                  refine bodyPost_ret (by simp [results, Tryz.results37, go_sem, C]; try rfl) rfl ?_
                  rw [HE.out]
                  exact ⟨.slice (some ⟨g4, 0, none⟩) rs.length d4, rs.set i ⟨⟨pi, pt, pd, insPg pg ⟨n, f, false⟩, td⟩, .slice s3 (pg.length + 1) c3, (rs[i]!).ta⟩, rfl, by rw [List.map_set, HRS.out], HS.shutPs (L := []) H⟩
              · have HEX : k < pg.length → decide ((pg[k]!).n < n) = false := fun h => absurd h hlk
                skip
                have HTW := Lib.hid (takeWhile_at (p := fun y => decide (y.n < n)) hk HK.out HEX)
                clear HEX HK
                go_upto_region 16 with fail
                try clear d0 d1 d2
                clear c0 c1 c2 c3 c4
                replace H := (H.manyCons 0 rfl).nilRow 49 3
                simp only [List.eraseIdx_cons_zero, List.nil_append, List.cons_append, outerR] at H
                have hrl : rs.length = qs.length := by have := congrArg List.length (HRS.out.trans HQS.out.symm); simpa using this
                have hir : i < rs.length := by omega
                obtain ⟨sb, d4, rfl⟩ := ownsRow_slice (H.at 0 rfl)
                obtain ⟨g4, rfl, hg4, hcap4⟩ := ownsRow_ptr (H.at 0 rfl) (by omega)
                have HRL := Lib.hid hrl
                clear hrl hg4
                refine wp_region_hz (by kernel_rfl) [0, 1, 2, 3, 4, 5, 6, 7, 8, 9, 10, 11, 12, 13, 14, 15, 16, 17, 18, 19, 20, 21, 22, 23, 24] (by kernel_rfl) (by kernel_rfl) (by kernel_rfl) rfl (fun _ => False) (H) ?_
                clear H; intro w6 H hz0
                try clear C
                try simp only [World.size_alloc, List.nil_append, List.cons_append, List.append_assoc] at H hz0 ⊢
                clear hz0
                try clear wr
                have C := H.cells
                try simp only [cellsOf, cellsM, apartOf, apartM, and_true] at C
                have Z := H.zs
                try simp only [ltsOf, ltsM, and_true] at Z
                simp only [List.filterMap_cons, List.filterMap_nil, List.getElem?_toArray, List.getElem?_cons_zero, List.getElem?_cons_succ]
                try clear c0 c1 c2 c3 c4
                have c0 := (H.was HB.out (fun h => h)).trans HC0.out
                have c1 := (H.was HB.out (fun h => h)).trans HC1.out
                have c2 := (H.was HB.out (fun h => h)).trans HC2.out
                have c3 := (H.was HB.out (fun h => h)).trans HC3.out
                have c4 := (H.was HB.out (fun h => h)).trans HC4.out
                have hb4 : b < w6.heap.size := Nat.lt_of_lt_of_le HB.out H.size
                have hkc : (k : Int) ≤ pc := by have := HPC.out.1; omega
                have hkl2 : (k : Int) ≤ pg.length := by omega
                obtain ⟨sx, hsx⟩ : ∃ sx : Option Addr, sx = (if pc = k then (pb : Option Addr) else (pb : Option Addr).map (·.add (k * 3))) := ⟨_, rfl⟩
                have HSX := Lib.hid hsx
                clear hsx
                (refine wpH_free rfl rfl rfl (fun _ _ => ?_); go_step; go_step)
                (refine wpH_free rfl rfl rfl (fun _ _ => ?_); go_step; go_step)
                (refine wpH_free rfl rfl rfl (fun _ _ => ?_); go_step; go_step)
                (refine wpH_free rfl rfl rfl (fun _ _ => ?_); go_step; go_step)
                (refine wpH_yield rfl rfl (.pointer (some ⟨b, o + i * 5, none⟩)) (fun w _ => by go_simp) ?_; go_simp)
                (refine wpH_free rfl rfl rfl (fun _ _ => ?_); go_step; go_step)
                (refine wpH_load rfl rfl rfl (by simp [Stay, OneD, NoD, *]) (by simp [*]) (fun _ _ => ?_); go_step; go_step)
                (refine wpH_free rfl rfl rfl (fun _ _ => ?_); go_step; go_step)
                (refine wpH_yield rfl rfl (.slice (pb : Option Addr) k pc ) (fun w _ => by  (cases pb <;> go_simp)) ?_; go_simp)
                refine wpH_append rfl (.const (.slice none 0 0)) (.tmp 88) 50 rfl elemPg 2 rfl rfl (by simp [Value.ownBlock]) (fun _ h => h.1) rfl (fun w hc => (Lies.srcPre pgC_len (by decide) HPC.out (hc.hs.lies HPG.out) hk).1) (Lies.srcPre pgC_len (by decide) HPC.out (H.lies HPG.out) hk).2 (pgC_one _) (by unfold maxLen; omega) (by omega) (N := k) (Nat.zero_add k) (fun s1 c1 hs1 => ?_)
                (refine wpH_free rfl rfl rfl (fun _ _ => ?_); go_step; go_step)
                (refine wpH_free rfl rfl rfl (fun _ _ => ?_); go_step; go_step)
                (refine wpH_free rfl rfl rfl (fun _ _ => ?_); go_step; go_step)
                (refine wpH_lit rfl rfl #[.int .i64 n, .int .i64 f, .bool false]   49 1 (fun w => by kernel_rfl) (fun bL hbL nbL _ _ => ?_); go_simp; go_step)
                refine wpH_append rfl (.tmp 89) (.tmp 93) 50 rfl elemPg 2 rfl rfl hs1 (fun _ h => h.1) rfl (fun w hc => src_lit (Fl.at _ _ _) hc) rfl (fun y hy => pgC_one [⟨n, f, false⟩] y (by simpa [pgC] using hy)) (by unfold maxLen; omega) (by omega) (N := k + 1) rfl (fun s2 c2 hs2 => ?_)
                (refine wpH_free rfl rfl rfl (fun _ _ => ?_); go_step; go_step)
                (refine wpH_free rfl rfl rfl (fun _ _ => ?_); go_step; go_step)
                (refine wpH_yield rfl rfl (.pointer (some ⟨b, o + i * 5, none⟩)) (fun w _ => by go_simp) ?_; go_simp)
                (refine wpH_free rfl rfl rfl (fun _ _ => ?_); go_step; go_step)
                (refine wpH_load rfl rfl rfl (by simp [Stay, OneD, NoD, *]) (by simp [*]) (fun _ _ => ?_); go_step; go_step)
                (refine wpH_free rfl rfl rfl (fun _ _ => ?_); go_step; go_step)
                (refine wpH_yield rfl rfl (.slice sx (pg.length - k) (pc - k) ) (fun w _ => by  (rw [HSX.out]; cases pb <;> go_simp)) ?_; go_simp)
                refine wpH_append rfl (.tmp 94) (.tmp 101) 50 rfl elemPg 2 rfl rfl hs2 (fun _ h => h.1) rfl (fun w hc => by rw [HSX.out]; exact (Lies.srcPart pgC_len (by decide) HPC.out (hc.hs.lies HPG.out) hk).1) (Lies.srcPart pgC_len (by decide) HPC.out (H.lies HPG.out) hk).2 (pgC_one _) (by unfold maxLen; omega) (by omega) (N := pg.length + 1) (by omega) (fun s3 c3 hs3 => ?_)
                (refine wpH_yield rfl rfl (.pointer (some ⟨g4, i * 5, none⟩)) (fun w _ => by go_simp) ?_; go_simp)
                (refine wpH_free rfl rfl rfl (fun _ _ => ?_); go_step; go_step)
                refine wpH_nil ?_
                intro w7 hC
                replace H := hC.hs
                clear hC
                try clear C
                try clear Z
                try simp only [List.nil_append, List.cons_append, List.append_assoc, List.set_cons_succ, List.set_cons_zero] at H
                try clear w6
                have C := H.cells
                try simp only [cellsOf, cellsM, apartOf, apartM, and_true] at C
                have hu9 := (H.rowCells 0 rfl (i * 5 + 3) (by omega)).1
                have hf9 := (H.rowCells 0 rfl (i * 5 + 3) (by omega)).2
                obtain ⟨u9, hu9'⟩ : ∃ u, (rs.flatMap pvC)[i * 5 + 3]? = some u := ⟨_, List.getElem?_eq_getElem (by rw [flat_len pvC_len]; omega)⟩
                rw [hu9'] at hu9
                clear hu9'
                go_upto_region 17 with fail
                clear hu9 hf9
                generalize hwb : World.setCell _ _ _ = wf
                have H9 := HS.eqW hwb (H.rowSet 0 rfl (i * 5 + 3) (.slice s3 (pg.length + 1) c3))
                clear H C hwb
                have hil : (insPg pg ⟨n, f, false⟩).length = pg.length + 1 := by
                  unfold insPg; rw [HTW.out.1, HTW.out.2, List.length_append, List.length_cons, List.length_take, List.length_drop]; omega
                have hif : (insPg pg ⟨n, f, false⟩).flatMap pgC = (pg.take k).flatMap pgC ++ (Value.int .i64 n :: Value.int .i64 f :: Value.bool false :: (pg.drop k).flatMap pgC) := by
                  unfold insPg; rw [HTW.out.1, HTW.out.2, List.flatMap_append, List.flatMap_cons]; simp [pgC]
                have hrp : (rs[i]!).p = ⟨pi, pt, pd, pg, td⟩ := by rw [← map_at hir, HRS.out]; exact HPE.out
                have hpv : pvC (⟨⟨pi, pt, pd, insPg pg ⟨n, f, false⟩, td⟩, .slice s3 (pg.length + 1) c3, (rs[i]!).ta⟩ : Pv) = (pvC rs[i]!).set 3 (.slice s3 (pg.length + 1) c3) := by unfold pvC; rw [hrp]; rfl
                have H : HS NoD w ([.row (.slice (some ⟨g4, 0, none⟩) rs.length d4) 52 5 (rs.set i ⟨⟨pi, pt, pd, insPg pg ⟨n, f, false⟩, td⟩, .slice s3 (pg.length + 1) c3, (rs[i]!).ta⟩).length ((rs.set i ⟨⟨pi, pt, pd, insPg pg ⟨n, f, false⟩, td⟩, .slice s3 (pg.length + 1) c3, (rs[i]!).ta⟩).flatMap pvC)] ++ [Item.many (rs.flatMap innerR), .row (.slice s3 (pg.length + 1) c3) 49 3 (insPg pg ⟨n, f, false⟩).length ((insPg pg ⟨n, f, false⟩).flatMap pgC)]) wf := by
                  rw [flat_set pvC_len rs i 3 _ _ hir (by decide) hpv, List.length_set, hil, hif]
                  exact H9
                replace H := H.pageSwap (i := i) ⟨⟨pi, pt, pd, insPg pg ⟨n, f, false⟩, td⟩, .slice s3 (pg.length + 1) c3, (rs[i]!).ta⟩ hir rfl (by rw [hrp])
                clear H9 hpv
                skip
                try clear C
                try simp only [World.size_alloc, List.nil_append, List.cons_append, List.append_assoc] at H
                have C := H.cells
                try simp only [cellsOf, cellsM, apartOf, apartM, and_true] at C
                go_wp2_with fail
                refine bodyPost_ret (by simp [results, Tryz.results37, go_sem, C]; try rfl) rfl ?_
                rw [HE.out]
                exact ⟨.slice (some ⟨g4, 0, none⟩) rs.length d4, rs.set i ⟨⟨pi, pt, pd, insPg pg ⟨n, f, false⟩, td⟩, .slice s3 (pg.length + 1) c3, (rs[i]!).ta⟩, rfl, by rw [List.map_set, HRS.out], HS.shutPs (L := []) H⟩
end Go.Proofs.YtedbpmckgiifpaaGreat
