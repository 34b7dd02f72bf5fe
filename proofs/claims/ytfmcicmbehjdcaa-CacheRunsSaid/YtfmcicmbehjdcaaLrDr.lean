/- memfaultref31.Dirty: the dirty lines, each put where it belongs. -/
import Derived.Test.YtfmcicmbehjdcaaLrDi
import Derived.Test.YtfmcicmbehjdcaaApS
namespace Go.Proofs.Ytfmcicmbehjdcaa
set_option linter.unusedSimpArgs false
set_option linter.unusedVariables false
open Go.RowKit
set_option maxRecDepth 100000
attribute [local irreducible] wpX wpF Calls

section
variable {P : Program} {ops : Array Oper} {σ : SW}
/-- 'append' of what lies anywhere, in a region that is walked in its text's order. -/
theorem wpX_apX {D : Nat → Prop} {W : World} {L : List Item} {a : Act} {w : World} {o : Oper} {rest : List Oper} {Q : Act → World → Prop} (hgd : o.guard = none) (he : effOp o.op = true) (s x : Operand) (t : TypeId)
    (ho : o.op = .call { callee := .builtin .append, args := #[s, x], argTypes := #[t, t] }) {e : TypeId} {z : Value} {size bytes : Nat} (hE : Elem P t e z size bytes)
    (H : HS D W L w) (k : Nat) {v : Value} {n : Nat} {xs : List Value} (hk : L[k]? = some (.row v e size n xs)) (hs : a.eval s = v)
    {sa : Option Addr} {m c : Nat} {news : List Value} (hx : a.eval x = .slice sa m c) (hsrc : SrcOk w sa m c news) (hl : news.length = m * size) (h1 : ∀ y ∈ news, y.oneCell' = true) (h63 : n + m ≤ maxLen) (hbytes : (n + m) * bytes ≤ 140737488355328) {N : Nat} (hN : n + m = N)
    (h : ∀ s' c' w', HS D W (L.set k (.row (.slice s' N c') e size N (xs ++ news))) w' → w.grownBy w' v.ownBlock → σ.S w' ∧ wpX P ops σ Q rest (a.put o.dst (.slice s' N c')) w') : wpX P ops σ Q (o :: rest) a w :=
  wpX_eff (by simp [Region.wanted, hgd]) he fun K hK => by
    have := step_apX (ops := ops) (K := K) (Q := fun _ _ _ => False) (E := True) hgd s x t ho hE H k hk hs hx hsrc hl h1 h63 hbytes hN fun s' c' w' h2 h3 => hK _ _ (h s' c' w' h2 h3)
    rwa [if_pos (by simp [Region.wanted, hgd])] at this
end
theorem flat_take9 {ys : List (Lm × Sv)} {i : Nat} (hi : i ≤ ys.length) : (ys.take i).flatMap lnC = (ys.flatMap lnC).take (i * 4) := by
  have e : ys.flatMap lnC = (ys.take i).flatMap lnC ++ (ys.drop i).flatMap lnC := by rw [← List.flatMap_append, List.take_append_drop]
  rw [e, List.take_left' (by rw [flat_len lnC_len, List.length_take]; omega)]
theorem flat_drop9 {ys : List (Lm × Sv)} {i : Nat} (hi : i ≤ ys.length) : (ys.drop i).flatMap lnC = (ys.flatMap lnC).drop (i * 4) := by
  have e : ys.flatMap lnC = (ys.take i).flatMap lnC ++ (ys.drop i).flatMap lnC := by rw [← List.flatMap_append, List.take_append_drop]
  rw [e, List.drop_left' (by rw [flat_len lnC_len, List.length_take]; omega)]
theorem addr_add9 (g o q : Nat) : (⟨g, o, none⟩ : Addr).add q = ⟨g, o + q, none⟩ := by unfold Addr.add; split <;> simp_all
theorem srcTake {w : World} {g c i cc : Nat} {ys : List (Lm × Sv)} (h : w.ownsRow 0 35 4 (.slice (some ⟨g, 0, none⟩) ys.length c) ys.length (ys.flatMap lnC)) (hi : i ≤ ys.length) : SrcOk w (some ⟨g, 0, none⟩) i cc ((ys.take i).flatMap lnC) := .inr ⟨_, rfl, fun q y hq => by
  rw [flat_take9 hi, List.getElem?_take] at hq
  split at hq
  · rw [addr_add9, Nat.zero_add]
    exact (World.ownsRow.cellAt h q (by omega)).trans hq
  · cases hq⟩
theorem srcDrop {w : World} {g c i cc : Nat} {ad : Addr} {ys : List (Lm × Sv)} (h : w.ownsRow 0 35 4 (.slice (some ⟨g, 0, none⟩) ys.length c) ys.length (ys.flatMap lnC)) (hi : i ≤ ys.length) (had : 0 < ys.length - i → ad = ⟨g, i * 4, none⟩) : SrcOk w (some ad) (ys.length - i) cc ((ys.drop i).flatMap lnC) := .inr ⟨_, rfl, fun q y hq => by
  have hl := (List.getElem?_eq_some_iff.1 hq).1
  rw [flat_len lnC_len, List.length_drop] at hl
  rw [flat_drop9 hi, List.getElem?_drop] at hq
  rw [had (by omega), addr_add9]
  exact (World.ownsRow.cellAt h (i * 4 + q) (by omega)).trans hq⟩
theorem srcTake0 {w : World} : SrcOk w none 0 0 [] := .inl ⟨rfl, rfl, rfl⟩
theorem srcOne {w : World} {b : Nat} {t : TypeId} {ad : Int} {bs : List Int} {d p : Bool} {ra : Option Addr} {rn rc : Nat} (h : Blk w b #[.int .i64 ad, .slice ra rn rc, .bool d, .bool p] t) : SrcOk w (some ⟨b, 0, none⟩) 1 1 ([((⟨ad, bs, d, p⟩ : Lm), (⟨ra, rn, rc⟩ : Sv))].flatMap lnC) := .inr ⟨_, rfl, fun q y hq => by
  rw [addr_add9, Nat.zero_add, h.cell]
  simpa [lnC] using hq⟩
theorem none_of_nil {w : World} {s : Option Addr} {c : Nat} {e : TypeId} (h : w.ownsRow 0 e 4 (.slice s 0 c) 0 []) : s = none ∨ True := .inr trivial
theorem ins_len9 {ys : List (Lm × Sv)} {i : Nat} {q : Lm × Sv} (hi : i ≤ ys.length) : (ys.take i ++ [q] ++ ys.drop i).length = ys.length + 1 := by
  simp; omega
theorem linesOk_ins {w : World} {ys : List (Lm × Sv)} {i : Nat} (h : LinesOk w ys) {m : Lm} {x : Sv} (hx : BytesAt w x m.bs) : LinesOk w (ys.take i ++ [(m, x)] ++ ys.drop i) := fun q hq => by
  rcases List.mem_append.1 hq with h1 | h1
  · rcases List.mem_append.1 h1 with h2 | h2
    · exact h q (List.mem_of_mem_take h2)
    · cases List.mem_singleton.1 h2; exact hx
  · exact h q (List.mem_of_mem_drop h1)
theorem ins_dirty {l : List Sm} {j i : Nat} {ys : List (Lm × Sv)} {m : Lm} (h : DirtyR (l.take j) (ys.map Prod.fst)) (hy : dirtyL (l.take (j + 1)) = dirtyL (l.take j) ++ [m]) (hi : i ≤ ys.length) (hlo : ∀ r, r < i → (ys[r]!).1.ad < m.ad) (hhi : i < ys.length → ¬ (ys[i]!).1.ad < m.ad) (x : Sv) : DirtyR (l.take (j + 1)) ((ys.take i ++ [(m, x)] ++ ys.drop i).map Prod.fst) := by
  obtain ⟨hp, hs⟩ := h
  refine ⟨?_, ?_⟩
  · rw [hy]
    have e : (ys.take i ++ [(m, x)] ++ ys.drop i).Perm (ys ++ [(m, x)]) := by
      rw [List.append_assoc]
      have h1 : (ys.take i ++ ([(m, x)] ++ ys.drop i)).Perm (ys.take i ++ (ys.drop i ++ [(m, x)])) := List.Perm.append_left _ List.perm_append_comm
      have h2 : ys.take i ++ (ys.drop i ++ [(m, x)]) = ys ++ [(m, x)] := by rw [← List.append_assoc, List.take_append_drop]
      rw [h2] at h1
      exact h1
    have h2 := e.map Prod.fst
    rw [List.map_append (l₁ := ys)] at h2
    exact h2.trans (hp.append_right _)
  · rw [List.pairwise_map] at hs ⊢
    have hge : ∀ q ∈ ys.drop i, ¬ q.1.ad < m.ad := fun q hq => by
      obtain ⟨k, hk, rfl⟩ := List.getElem_of_mem hq
      rw [List.length_drop] at hk
      rw [List.getElem_drop]
      have h0 := hhi (by omega)
      rw [getElem!_pos ys i (by omega)] at h0
      by_cases e : k = 0
      · subst e; exact h0
      · have := List.pairwise_iff_getElem.1 hs i (i + k) (by omega) (by omega) (by omega)
        omega
    have hlt : ∀ q ∈ ys.take i, q.1.ad < m.ad := fun q hq => by
      obtain ⟨k, hk, rfl⟩ := List.getElem_of_mem hq
      rw [List.length_take] at hk
      rw [List.getElem_take]
      have := hlo k (by omega)
      rw [getElem!_pos ys k (by omega)] at this
      exact this
    have hsp : ys = ys.take i ++ ys.drop i := (List.take_append_drop i ys).symm
    rw [hsp] at hs
    obtain ⟨p1, p2, p3⟩ := List.pairwise_append.1 hs
    rw [List.append_assoc]
    refine List.pairwise_append.2 ⟨p1, List.pairwise_cons.2 ⟨fun q hq => hge q hq, p2⟩, fun a ha b hb => ?_⟩
    have h1 := hlt a ha
    rcases List.mem_cons.1 hb with rfl | hb
    · dsimp only; omega
    · have := hge b hb; omega
set_option maxHeartbeats 32000000 in
theorem r31dirty_any (sets ways size : Int) (x : Sv) (l : List Sm) (hs : l.length ≤ 1000) (hsm : ∀ j, j < l.length → (l[j]!).ln.bs.length ≤ 1000) (w : World) (h : SlotsAt w x l) : Calls Try.prog 31 #[caV sets ways size x] w (GivesLines (DirtyR l) w) := by
  obtain ⟨xa, xn, xc⟩ := x
  obtain ⟨q0, hql, hn, hcap, hl, hb⟩ := h
  dsimp only at hn hcap hl
  subst hn
  have hq1 : q0.length = l.length := by rw [← hql, List.length_map]
  have HQ := Lib.hid (show ∀ j, j < l.length → (q0[j]!).s = l[j]! from fun j hj => by rw [← hql, map_get _ _ _ (by omega)])
  have HB := Lib.hid (show ∀ j, j < l.length → BytesAt w (q0[j]!).x (q0[j]!).s.ln.bs from fun j hj => hb j (by omega))
  have HSM := Lib.hid hsm
  have HL := Lib.hid hl
  rw [hq1] at HL
  show Calls Try.prog 31 #[.agg #[.int .i64 sets, .int .i64 ways, .int .i64 size, .slice xa q0.length xc]] w _
  rw [hq1]
  clear hb hl hcap hql hq1 hsm
  go_enter Try.func31, Try.ntmps31
  have H := HS.start NoD w
  go_upto_region 1 with fail
  generalize hwb : w.alloc _ = w1
  replace H := HS.eqW hwb H.alloc
  try simp only [World.size_alloc, List.nil_append, List.cons_append, List.append_assoc] at H
  clear hwb
  generalize w.heap.size = bX at H ⊢
  try clear C
  have C := H.cells
  try simp only [cellsOf, cellsM, apartOf, apartM, and_true] at C
  have hn1 := (H.nilRow 35 4).anyNil
  clear H
  have H := HS.weak (L := [_, _]) hn1 (K' := fun w => LinesOk w []) (fun w' _ q hq => absurd hq List.not_mem_nil)
  clear hn1
  try simp only [List.nil_append, List.cons_append] at H
  try clear C
  try simp only [World.size_alloc, List.nil_append, List.cons_append, List.append_assoc] at H
  have C := H.cells
  try simp only [cellsOf, cellsM, apartOf, apartM, and_true] at C
  go_wp2_with fail
  go_loopw [3, 10] (fun sv jj wr => ∃ (j : Nat) (s : Option Addr) (c : Nat) (ys : List (Lm × Sv)) (F : Nat → Prop), jj = .int .i64 j ∧ sv = .slice s ys.length c ∧ j ≤ l.length ∧ ys.length ≤ j ∧ Hid (ys = [] → s = none ∧ c = 0) ∧ Hid (DirtyR (l.take j) (ys.map Prod.fst)) ∧ HS NoD w [.blk bX #[.int .i64 sets, .int .i64 ways, .int .i64 size, .slice xa l.length xc] 24, rowL s ys.length c ys, .any F (fun w => LinesOk w ys)] wr) (fun _ jj _ => l.length - (intOf jj).toNat)
  case atStart => exact ⟨0, none, 0, [], _, rfl, rfl, Nat.zero_le _, Nat.le_refl _, (show Hid _ from fun _ => ⟨rfl, rfl⟩), (show Hid _ from ⟨List.Perm.refl _, .nil⟩), H⟩
  case round =>
    clear H C
    obtain ⟨j, s, c, ys, F, rfl, rfl, hj, hyj, HNS, HY, H⟩ := hrel
    skip
    try clear C
    try simp only [World.size_alloc, List.nil_append, List.cons_append, List.append_assoc] at H
    have C := H.cells
    try simp only [cellsOf, cellsM, apartOf, apartM, and_true] at C
    by_cases hlt : j < l.length
    · obtain ⟨b, o, rfl, hb, hc⟩ := (H.liesUp HL.out).at hlt
      have h1 := HQ.out j hlt
      have HBJ := Lib.hid (HB.out j hlt)
      have HMJ := Lib.hid (HSM.out j hlt)
      have HYES := Lib.hid (dirtyL_yes hlt)
      have HNO := Lib.hid (dirtyL_no hlt)
      rw [← h1] at HMJ HYES HNO
      have HLT := Lib.hid hlt
      generalize q0[j]! = q at hc HBJ HMJ HYES HNO
      obtain ⟨⟨u, age, ⟨ad, bs, d, p⟩⟩, ⟨sa, sn, sc⟩⟩ := q
      have c0 : wr.cell? ⟨b, o + j * 6, none⟩ = some (.bool u) := hc 0 _ rfl
      have c1 : wr.cell? ⟨b, o + j * 6 + 1, none⟩ = some (.int .i64 age) := hc 1 _ rfl
      have c2 : wr.cell? ⟨b, o + j * 6 + 2, none⟩ = some (.int .i64 ad) := hc 2 _ rfl
      have c3 : wr.cell? ⟨b, o + j * 6 + 3, none⟩ = some (.slice sa sn sc) := hc 3 _ rfl
      have c4 : wr.cell? ⟨b, o + j * 6 + 4, none⟩ = some (.bool d) := hc 4 _ rfl
      have c5 : wr.cell? ⟨b, o + j * 6 + 5, none⟩ = some (.bool p) := hc 5 _ rfl
      have n1 : (b = wr.heap.size) = False := eq_false (by omega)
      have n2 : (wr.heap.size = b) = False := eq_false (by omega)
      have hji : (j : Int) < l.length := by omega
      have hj1000 : (j : Int) < 1000 := by omega
      clear hc h1
      go_upto_region 5 with fail
      clear c0 c1 c2 c3 c4 c5 n1 n2
      generalize hwb : wr.alloc _ = w2
      replace H := HS.eqW hwb H.alloc
      try simp only [World.size_alloc, List.nil_append, List.cons_append, List.append_assoc] at H
      clear hwb
      generalize wr.heap.size = bP at H ⊢
      try clear C
      try clear wr
      have C := H.cells
      try simp only [cellsOf, cellsM, apartOf, apartM, and_true] at C
      dsimp only [isDi] at HYES HNO HMJ HBJ
      skip
      cases u
      case false =>
        have HN2 := Lib.hid (HNO.out rfl)
        go_wp2_with fail
        go_roundw
        case rel => exact ⟨j + 1, s, c, ys, F, by go_num, rfl, by have := HLT.out; omega, by omega, HNS, (show Hid _ by unfold DirtyR; rw [HN2.out]; exact HY.out), HS.less H (by repeat (first | exact .slnil | refine .cons_cons _ ?_ | refine .cons _ ?_))⟩
        case measure => simp [intOf]; have := HLT.out; omega
      case true =>
        cases d
        case false =>
          have HN2 := Lib.hid (HNO.out rfl)
          skip
          go_wp2_with fail
          go_roundw
          case rel => exact ⟨j + 1, s, c, ys, F, by go_num, rfl, by have := HLT.out; omega, by omega, HNS, (show Hid _ by unfold DirtyR; rw [HN2.out]; exact HY.out), HS.less H (by repeat (first | exact .slnil | refine .cons_cons _ ?_ | refine .cons _ ?_))⟩
          case measure => simp [intOf]; have := HLT.out; omega
        case true =>
          have HY2 := Lib.hid (HYES.out rfl)
          have hys : ys.length ≤ 1000 := by omega
          have HYB := Lib.hid hys
          have HYJ := Lib.hid hyj
          have LCP := Lib.hid (fun wx (hx : BytesAt wx ⟨sa, sn, sc⟩ bs) => (show Calls Try.prog 33 #[.agg #[.int .i64 ad, .slice sa sn sc, .bool true, .bool p]] wx (GivesLine ⟨ad, bs, true, p⟩ wx) from l30copy_any ⟨ad, bs, true, p⟩ ⟨sa, sn, sc⟩ HMJ.out wx hx))
          skip
          go_upto_region 7 with fail
          go_loopw [6] (fun ii wr => ∃ (i : Nat), ii = .int .i64 i ∧ i ≤ ys.length ∧ Hid (∀ r, r < i → (ys[r]!).1.ad < ad) ∧ HS NoD w [.blk bX #[.int .i64 sets, .int .i64 ways, .int .i64 size, .slice (some ⟨b, o, none⟩) l.length xc] 24, rowL s ys.length c ys, .any F (fun w => LinesOk w ys), .blk bP #[.bool true, .int .i64 age, .int .i64 ad, .slice sa sn sc, .bool true, .bool p] 37] wr) (fun ii _ => ys.length - (intOf ii).toNat)
          case atStart => exact ⟨0, rfl, Nat.zero_le _, (show Hid _ from fun r hr => absurd hr (Nat.not_lt_zero _)), H⟩
          case round =>
            clear H C
            obtain ⟨i, rfl, hi, HLO, H⟩ := hrel
            skip
            try clear C
            try simp only [World.size_alloc, List.nil_append, List.cons_append, List.append_assoc] at H
            have C := H.cells
            try simp only [cellsOf, cellsM, apartOf, apartM, and_true] at C
            have hib : (i : Int) ≤ 1000 := by omega
            by_cases hil : i < ys.length
            · have hilI : (i : Int) < ys.length := by omega
              obtain ⟨g, cg, hv, -, -⟩ := World.ownsRow.form (H.at 1 rfl) (by omega)
              obtain ⟨rfl, -, rfl⟩ := Value.slice.inj hv
              clear hv
              have hgl : g < wr.heap.size := Item.lt (H.at 1 rfl) (k := g) rfl
              have HIL := Lib.hid hil
              have HFG := Lib.hid (fun m v => flat_get lnC_len ys i m v hil)
              obtain ⟨ai, hai⟩ : ∃ a, a = (ys[i]!).1.ad := ⟨_, rfl⟩
              have HAI := Lib.hid hai
              have HCE := Lib.hid (show (ys.flatMap lnC)[i * 4]? = some (.int .i64 ai) from HFG.out 0 _ (by rw [hai]; rfl))
              clear hai
              skip
              by_cases hlo : ai < ad
              · have HL2 := Lib.hid (show ∀ r, r < i + 1 → (ys[r]!).1.ad < ad from fun r hr => by
                  by_cases e : r = i
                  · rw [e, ← HAI.out]; exact hlo
                  · exact HLO.out r (by omega))
                go_upto_region 7 with fail
                refine wp_region_xH (by kernel_rfl) (by kernel_rfl) (by kernel_rfl) (by kernel_rfl) (fun _ => False) (H) ?_
                clear H; intro w3 H hz0 hs0
                try clear C
                try simp only [World.size_alloc, List.nil_append, List.cons_append, List.append_assoc] at H hz0
                clear hz0
                try clear wr
                have C := H.cells
                try simp only [cellsOf, cellsM, apartOf, apartM, and_true] at C
                have Z := H.zs
                try simp only [ltsOf, ltsM, and_true] at Z
                have hz0 := Nat.le_refl w3.heap.size
                have hgl : g < w3.heap.size := Item.lt (H.at 1 rfl) (k := g) rfl
                have na := H.rowApart 1 3 rfl rfl (by decide)
                have e0 : w3.cell? ⟨g, i * 4, none⟩ = some (.int .i64 ai) := (H.rowCells 1 rfl (i * 4) (by have := HIL.out; omega)).1.trans HCE.out
                repeat (first | (refine wpX_skip rfl ?_; go_simp) | (refine wpX_free rfl rfl rfl (fun K hK => ?_); go_step; refine hK _ _ ?_; clear hK K) | (refine wpX_load rfl rfl rfl (by simp [Stay, OneD, NoD, *]) hs0 (by simp [*]) (fun K hK => ?_); go_step; refine hK _ _ ?_; clear hK K))
                (refine wpX_nil ?_; go_step)
                go_wp2_with fail
                go_roundw
                case rel => exact ⟨i + 1, by go_num, by have := HIL.out; omega, HL2, H⟩
                case measure => simp [intOf]; have := HIL.out; omega
              · have HHI := Lib.hid (show i < ys.length → ¬ (ys[i]!).1.ad < ad from fun _ => by rw [← HAI.out]; exact hlo)
                skip
                go_upto_region 7 with fail
                refine wp_region_xH (by kernel_rfl) (by kernel_rfl) (by kernel_rfl) (by kernel_rfl) (fun _ => False) (H) ?_
                clear H; intro w4 H hz0 hs0
                try clear C
                try simp only [World.size_alloc, List.nil_append, List.cons_append, List.append_assoc] at H hz0
                clear hz0
                try clear wr
                have C := H.cells
                try simp only [cellsOf, cellsM, apartOf, apartM, and_true] at C
                have Z := H.zs
                try simp only [ltsOf, ltsM, and_true] at Z
                have hz0 := Nat.le_refl w4.heap.size
                have hgl : g < w4.heap.size := Item.lt (H.at 1 rfl) (k := g) rfl
                have na := H.rowApart 1 3 rfl rfl (by decide)
                have e0 : w4.cell? ⟨g, i * 4, none⟩ = some (.int .i64 ai) := (H.rowCells 1 rfl (i * 4) (by have := HIL.out; omega)).1.trans HCE.out
                repeat (first | (refine wpX_skip rfl ?_; go_simp) | (refine wpX_free rfl rfl rfl (fun K hK => ?_); go_step; refine hK _ _ ?_; clear hK K) | (refine wpX_load rfl rfl rfl (by simp [Stay, OneD, NoD, *]) hs0 (by simp [*]) (fun K hK => ?_); go_step; refine hK _ _ ?_; clear hK K))
                (refine wpX_nil ?_; go_step)
                clear e0 hgl na
                have hcap : ys.length ≤ c := (row_capOk (H.at 1 rfl)).1
                have HCAP := Lib.hid hcap
                have HI := Lib.hid hi
                have HINS := Lib.hid (fun (xv : Sv) => ins_dirty HY.out HY2.out HI.out HLO.out HHI.out xv)
                obtain ⟨ad9, had1, had2⟩ : ∃ ad9 : Addr, (if c = i then some ⟨g, 0, none⟩ else some ⟨g, i * 4, none⟩ : Option Addr) = some ad9 ∧ (0 < ys.length - i → ad9 = ⟨g, i * 4, none⟩) := by
                  have := HCAP.out
                  by_cases e : c = i
                  · rw [if_pos e]; exact ⟨_, rfl, fun h => by omega⟩
                  · rw [if_neg e]; exact ⟨_, rfl, fun h => rfl⟩
                have HAD := Lib.hid had2
                have hic : (i : Int) ≤ c := by have := HCAP.out; have := HI.out; omega
                have hii : (i : Int) ≤ ys.length := by have := HI.out; omega
                clear had2 hi
                go_step
                go_upto_region 9 with fail
                have hnr := H.nilRow 35 4
                clear H C
                have H := hnr
                clear hnr
                try simp only [List.nil_append, List.cons_append] at H
                try clear C
                try simp only [World.size_alloc, List.nil_append, List.cons_append, List.append_assoc] at H
                have C := H.cells
                try simp only [cellsOf, cellsM, apartOf, apartM, and_true] at C
                refine wp_region_sH (by kernel_rfl) (by kernel_rfl) (by kernel_rfl) (by kernel_rfl) (fun w => w.cell? ⟨bP, 2, none⟩ = some (.int .i64 ad) ∧ w.cell? ⟨bP, 3, none⟩ = some (.slice sa sn sc) ∧ w.cell? ⟨bP, 4, none⟩ = some (.bool true) ∧ w.cell? ⟨bP, 5, none⟩ = some (.bool p)) (H) (fun w0 H => ⟨(Blk.cell (H.at 3 rfl) 2).trans rfl, (Blk.cell (H.at 3 rfl) 3).trans rfl, (Blk.cell (H.at 3 rfl) 4).trans rfl, (Blk.cell (H.at 3 rfl) 5).trans rfl⟩) ?_
                clear H; intro w5 h0 H hz0
                try clear C
                try simp only [World.size_alloc, List.nil_append, List.cons_append, List.append_assoc] at H hz0
                clear hz0
                try clear w4
                have C := H.cells
                try simp only [cellsOf, cellsM, apartOf, apartM, and_true] at C
                repeat (first | (refine wpX_skip rfl ?_; go_simp) | (refine wpX_free rfl rfl rfl (fun K hK => ?_); go_step; refine hK _ _ ?_; clear hK K))
                (refine wpX_yield rfl rfl ((.slice (some ⟨g, 0, none⟩) i c)) (fun w hw => by go_simp) ?_; go_simp)
                refine wpX_apX rfl rfl (.const (.slice none 0 0)) (.tmp 42) 48 rfl elemLn H 4 rfl rfl rfl (srcTake (H.at 1 rfl) HI.out) (by rw [flat_len lnC_len, List.length_take, Nat.min_eq_left HI.out]) (lnC_one _) (by have := HYB.out; unfold maxLen; omega) (by have := HYB.out; omega) (N := i) (by omega) (fun s4 c4 w84 HZ hg9 => ?_)
                clear H hg9
                have H := HZ
                clear HZ
                simp only [List.set_cons_succ, List.set_cons_zero] at H
                try rw [List.nil_append] at H
                try clear C
                skip
                have C := H.cells
                try simp only [cellsOf, cellsM, apartOf, apartM, and_true] at C
                refine ⟨⟨(Blk.cell (H.at 3 rfl) 2).trans rfl, (Blk.cell (H.at 3 rfl) 3).trans rfl, (Blk.cell (H.at 3 rfl) 4).trans rfl, (Blk.cell (H.at 3 rfl) 5).trans rfl⟩, ?_⟩
                repeat (first | (refine wpX_skip rfl ?_; go_simp) | (refine wpX_free rfl rfl rfl (fun K hK => ?_); go_step; refine hK _ _ ?_; clear hK K))
                (refine wpX_yield rfl rfl (.agg #[.int .i64 ad, .slice sa sn sc, .bool true, .bool p]) (fun w hw => by obtain ⟨k0, k1, k2, k3⟩ := hw; go_simp) ?_; go_simp)
                refine wpX_eff rfl rfl (fun _ _ => ?_)
                go_step
                refine (LCP.out _ (HBJ.out.up H.done)).mono ?_
                rintro _ w6 ⟨⟨ra, rn, rc⟩, G, rfl, K⟩
                replace H := H.join K (one_low rfl)
                clear K
                try simp only [List.nil_append, List.cons_append, List.append_assoc] at H
                try clear C
                have C := H.cells
                try simp only [cellsOf, cellsM, apartOf, apartM, and_true] at C
                try clear w84
                dsimp only
                go_step
                refine ⟨⟨(Blk.cell (H.at 3 rfl) 2).trans rfl, (Blk.cell (H.at 3 rfl) 3).trans rfl, (Blk.cell (H.at 3 rfl) 4).trans rfl, (Blk.cell (H.at 3 rfl) 5).trans rfl⟩, ?_⟩
                dsimp only [lnV]
                repeat (first | (refine wpX_skip rfl ?_; go_simp) | (refine wpX_free rfl rfl rfl (fun K hK => ?_); go_step; refine hK _ _ ?_; clear hK K))
                refine wpX_eff rfl rfl (fun _ _ => ?_)
                go_step
                go_step
                generalize hwb : World.alloc _ _ = w7
                replace H := HS.eqW hwb H.alloc
                try simp only [World.size_alloc, List.nil_append, List.cons_append, List.append_assoc] at H
                clear hwb
                generalize w6.heap.size = bQ at H ⊢
                try clear C
                try clear w6
                have C := H.cells
                try simp only [cellsOf, cellsM, apartOf, apartM, and_true] at C
                refine ⟨⟨(Blk.cell (H.at 3 rfl) 2).trans rfl, (Blk.cell (H.at 3 rfl) 3).trans rfl, (Blk.cell (H.at 3 rfl) 4).trans rfl, (Blk.cell (H.at 3 rfl) 5).trans rfl⟩, ?_⟩
                refine wpX_apX rfl rfl (.tmp 43) (.tmp 47) 48 rfl elemLn H 4 rfl rfl rfl (srcOne (bs := bs) (H.at 6 rfl)) (by rfl) (lnC_one _) (by have := HYB.out; unfold maxLen; omega) (by have := HYB.out; omega) (N := i + 1) (by omega) (fun s4 c4 w85 HZ hg9 => ?_)
                clear H hg9
                have H := HZ
                clear HZ
                simp only [List.set_cons_succ, List.set_cons_zero] at H
                try clear C
                skip
                have C := H.cells
                try simp only [cellsOf, cellsM, apartOf, apartM, and_true] at C
                refine ⟨⟨(Blk.cell (H.at 3 rfl) 2).trans rfl, (Blk.cell (H.at 3 rfl) 3).trans rfl, (Blk.cell (H.at 3 rfl) 4).trans rfl, (Blk.cell (H.at 3 rfl) 5).trans rfl⟩, ?_⟩
                repeat (first | (refine wpX_skip rfl ?_; go_simp) | (refine wpX_free rfl rfl rfl (fun K hK => ?_); go_step; refine hK _ _ ?_; clear hK K))
                (refine wpX_yield rfl rfl ((.slice (some ad9) (ys.length - i) (c - i))) (fun w hw => by go_simp) ?_; go_simp)
                refine wpX_apX rfl rfl (.tmp 48) (.tmp 51) 48 rfl elemLn H 4 rfl rfl rfl (srcDrop (H.at 1 rfl) HI.out HAD.out) (by rw [flat_len lnC_len, List.length_drop]) (lnC_one _) (by have := HYB.out; unfold maxLen; omega) (by have := HYB.out; omega) (N := ys.length + 1) (by have := HI.out; omega) (fun s4 c4 w86 HZ hg9 => ?_)
                clear H hg9
                have H := HZ
                clear HZ
                simp only [List.set_cons_succ, List.set_cons_zero] at H
                try clear C
                skip
                have C := H.cells
                try simp only [cellsOf, cellsM, apartOf, apartM, and_true] at C
                refine ⟨⟨(Blk.cell (H.at 3 rfl) 2).trans rfl, (Blk.cell (H.at 3 rfl) 3).trans rfl, (Blk.cell (H.at 3 rfl) 4).trans rfl, (Blk.cell (H.at 3 rfl) 5).trans rfl⟩, ?_⟩
                repeat (first | (refine wpX_skip rfl ?_; go_simp) | (refine wpX_free rfl rfl rfl (fun K hK => ?_); go_step; refine hK _ _ ?_; clear hK K) | (refine wpX_load rfl rfl rfl (by simp [Stay, OneD, NoD, *]) hs0 (by simp [*]) (fun K hK => ?_); go_step; refine hK _ _ ?_; clear hK K))
                (refine wpX_nil ?_; go_step)
                have H9 := HS.less (L' := [.blk bX #[.int .i64 sets, .int .i64 ways, .int .i64 size, .slice (some ⟨b, o, none⟩) l.length xc] 24, .any F (fun w => LinesOk w ys), .row (.slice s4 (ys.length + 1) c4) 35 4 (ys.length + 1) (((ys.take i).flatMap lnC ++ [((⟨ad, bs, true, p⟩ : Lm), (⟨ra, rn, rc⟩ : Sv))].flatMap lnC) ++ (ys.drop i).flatMap lnC), .any G (fun w => BytesAt w ⟨ra, rn, rc⟩ bs)]) H (by repeat (first | exact .slnil | refine .cons_cons _ ?_ | refine .cons _ ?_))
                have H8 := H9.permu (L' := [.blk bX #[.int .i64 sets, .int .i64 ways, .int .i64 size, .slice (some ⟨b, o, none⟩) l.length xc] 24, .row (.slice s4 (ys.length + 1) c4) 35 4 (ys.length + 1) (((ys.take i).flatMap lnC ++ [((⟨ad, bs, true, p⟩ : Lm), (⟨ra, rn, rc⟩ : Sv))].flatMap lnC) ++ (ys.drop i).flatMap lnC), .any F (fun w => LinesOk w ys), .any G (fun w => BytesAt w ⟨ra, rn, rc⟩ bs)]) (List.Perm.cons _ (List.Perm.swap _ _ _))
                rw [show ((ys.take i).flatMap lnC ++ [((⟨ad, bs, true, p⟩ : Lm), (⟨ra, rn, rc⟩ : Sv))].flatMap lnC) ++ (ys.drop i).flatMap lnC = (ys.take i ++ [((⟨ad, bs, true, p⟩ : Lm), (⟨ra, rn, rc⟩ : Sv))] ++ ys.drop i).flatMap lnC by simp [List.flatMap_append]] at H8
                have H7 := HS.merge (L := [_, _]) H8
                have H6 := HS.weak (L := [_, _]) H7 (K' := fun w => LinesOk w (ys.take i ++ [((⟨ad, bs, true, p⟩ : Lm), (⟨ra, rn, rc⟩ : Sv))] ++ ys.drop i)) (fun w' h => linesOk_ins h.1 h.2)
                clear H9 H8 H7
                go_wp2_with fail
                go_roundw
                case rel => exact ⟨j + 1, s4, c4, (ys.take i ++ [((⟨ad, bs, true, p⟩ : Lm), (⟨ra, rn, rc⟩ : Sv))] ++ ys.drop i), _, by go_num, by rw [ins_len9 HI.out], by have := HLT.out; omega, by rw [ins_len9 HI.out]; have := HYJ.out; omega, (show Hid _ from fun e => by simp at e), HINS.out ⟨ra, rn, rc⟩, by rw [ins_len9 HI.out]; exact H6⟩
                case measure => simp [intOf]; have := HLT.out; omega
            · have hilI : ¬ ((i : Int) < ys.length) := by omega
              have HHI := Lib.hid (show i < ys.length → ¬ (ys[i]!).1.ad < ad from fun h => absurd h hil)
              have hcap := row_capOk (H.at 1 rfl)
              have HCAP := Lib.hid (show ys.length ≤ c from hcap.1)
              have HI := Lib.hid hi
              by_cases hy0 : ys.length = 0
              · obtain rfl : ys = [] := List.length_eq_zero_iff.1 hy0
                obtain rfl : i = 0 := by simp at hi; omega
                obtain ⟨rfl, rfl⟩ := HNS.out rfl
                have HINS := Lib.hid (fun (xv : Sv) => show Hid (DirtyR (l.take (j + 1)) (([] : List (Lm × Sv)).take 0 ++ [((⟨ad, bs, true, p⟩ : Lm), xv)] ++ ([] : List (Lm × Sv)).drop 0 |>.map Prod.fst)) from ins_dirty HY.out HY2.out HI.out HLO.out HHI.out xv)
                go_upto_region 7 with fail
                refine wp_region_xH (by kernel_rfl) (by kernel_rfl) (by kernel_rfl) (by kernel_rfl) (fun _ => False) (H) ?_
                clear H; intro w8 H hz0 hs0
                try clear C
                try simp only [World.size_alloc, List.nil_append, List.cons_append, List.append_assoc] at H hz0
                clear hz0
                try clear w86
                have C := H.cells
                try simp only [cellsOf, cellsM, apartOf, apartM, and_true] at C
                have Z := H.zs
                try simp only [ltsOf, ltsM, and_true] at Z
                have hz0 := Nat.le_refl w8.heap.size
                repeat (first | (refine wpX_skip rfl ?_; go_simp) | (refine wpX_free rfl rfl rfl (fun K hK => ?_); go_step; refine hK _ _ ?_; clear hK K) | (refine wpX_load rfl rfl rfl (by simp [Stay, OneD, NoD, *]) hs0 (by simp [*]) (fun K hK => ?_); go_step; refine hK _ _ ?_; clear hK K))
                (refine wpX_nil ?_; go_step)
                go_step
                go_upto_region 9 with fail
                have hnr := H.nilRow 35 4
                clear H C
                have H := hnr
                clear hnr
                try simp only [List.nil_append, List.cons_append] at H
                try clear C
                try simp only [World.size_alloc, List.nil_append, List.cons_append, List.append_assoc] at H
                have C := H.cells
                try simp only [cellsOf, cellsM, apartOf, apartM, and_true] at C
                refine wp_region_sH (by kernel_rfl) (by kernel_rfl) (by kernel_rfl) (by kernel_rfl) (fun w => w.cell? ⟨bP, 2, none⟩ = some (.int .i64 ad) ∧ w.cell? ⟨bP, 3, none⟩ = some (.slice sa sn sc) ∧ w.cell? ⟨bP, 4, none⟩ = some (.bool true) ∧ w.cell? ⟨bP, 5, none⟩ = some (.bool p)) (H) (fun w0 H => ⟨(Blk.cell (H.at 3 rfl) 2).trans rfl, (Blk.cell (H.at 3 rfl) 3).trans rfl, (Blk.cell (H.at 3 rfl) 4).trans rfl, (Blk.cell (H.at 3 rfl) 5).trans rfl⟩) ?_
                clear H; intro w9 h0 H hz0
                try clear C
                try simp only [World.size_alloc, List.nil_append, List.cons_append, List.append_assoc] at H hz0
                clear hz0
                try clear w8
                have C := H.cells
                try simp only [cellsOf, cellsM, apartOf, apartM, and_true] at C
                repeat (first | (refine wpX_skip rfl ?_; go_simp) | (refine wpX_free rfl rfl rfl (fun K hK => ?_); go_step; refine hK _ _ ?_; clear hK K))
                (refine wpX_yield rfl rfl ((.slice none 0 0)) (fun w hw => by go_simp) ?_; go_simp)
                refine wpX_apX rfl rfl (.const (.slice none 0 0)) (.tmp 42) 48 rfl elemLn H 4 rfl rfl rfl (srcTake0) rfl (by simp) (by have := HYB.out; unfold maxLen; omega) (by have := HYB.out; omega) (N := 0) (by omega) (fun s4 c4 w87 HZ hg9 => ?_)
                clear H hg9
                have H := HZ
                clear HZ
                simp only [List.set_cons_succ, List.set_cons_zero] at H
                try rw [List.nil_append] at H
                try clear C
                skip
                have C := H.cells
                try simp only [cellsOf, cellsM, apartOf, apartM, and_true] at C
                refine ⟨⟨(Blk.cell (H.at 3 rfl) 2).trans rfl, (Blk.cell (H.at 3 rfl) 3).trans rfl, (Blk.cell (H.at 3 rfl) 4).trans rfl, (Blk.cell (H.at 3 rfl) 5).trans rfl⟩, ?_⟩
                repeat (first | (refine wpX_skip rfl ?_; go_simp) | (refine wpX_free rfl rfl rfl (fun K hK => ?_); go_step; refine hK _ _ ?_; clear hK K))
                (refine wpX_yield rfl rfl (.agg #[.int .i64 ad, .slice sa sn sc, .bool true, .bool p]) (fun w hw => by obtain ⟨k0, k1, k2, k3⟩ := hw; go_simp) ?_; go_simp)
                refine wpX_eff rfl rfl (fun _ _ => ?_)
                go_step
                refine (LCP.out _ (HBJ.out.up H.done)).mono ?_
                rintro _ w10 ⟨⟨ra, rn, rc⟩, G, rfl, K⟩
                replace H := H.join K (one_low rfl)
                clear K
                try simp only [List.nil_append, List.cons_append, List.append_assoc] at H
                try clear C
                have C := H.cells
                try simp only [cellsOf, cellsM, apartOf, apartM, and_true] at C
                try clear w87
                dsimp only
                go_step
                refine ⟨⟨(Blk.cell (H.at 3 rfl) 2).trans rfl, (Blk.cell (H.at 3 rfl) 3).trans rfl, (Blk.cell (H.at 3 rfl) 4).trans rfl, (Blk.cell (H.at 3 rfl) 5).trans rfl⟩, ?_⟩
                dsimp only [lnV]
                repeat (first | (refine wpX_skip rfl ?_; go_simp) | (refine wpX_free rfl rfl rfl (fun K hK => ?_); go_step; refine hK _ _ ?_; clear hK K))
                refine wpX_eff rfl rfl (fun _ _ => ?_)
                go_step
                go_step
                generalize hwb : World.alloc _ _ = w11
                replace H := HS.eqW hwb H.alloc
                try simp only [World.size_alloc, List.nil_append, List.cons_append, List.append_assoc] at H
                clear hwb
                generalize w10.heap.size = bQ at H ⊢
                try clear C
                try clear w10
                have C := H.cells
                try simp only [cellsOf, cellsM, apartOf, apartM, and_true] at C
                refine ⟨⟨(Blk.cell (H.at 3 rfl) 2).trans rfl, (Blk.cell (H.at 3 rfl) 3).trans rfl, (Blk.cell (H.at 3 rfl) 4).trans rfl, (Blk.cell (H.at 3 rfl) 5).trans rfl⟩, ?_⟩
                refine wpX_apX rfl rfl (.tmp 43) (.tmp 47) 48 rfl elemLn H 4 rfl rfl rfl (srcOne (bs := bs) (H.at 6 rfl)) (by rfl) (lnC_one _) (by have := HYB.out; unfold maxLen; omega) (by have := HYB.out; omega) (N := 0 + 1) (by omega) (fun s4 c4 w88 HZ hg9 => ?_)
                clear H hg9
                have H := HZ
                clear HZ
                simp only [List.set_cons_succ, List.set_cons_zero] at H
                try clear C
                skip
                have C := H.cells
                try simp only [cellsOf, cellsM, apartOf, apartM, and_true] at C
                refine ⟨⟨(Blk.cell (H.at 3 rfl) 2).trans rfl, (Blk.cell (H.at 3 rfl) 3).trans rfl, (Blk.cell (H.at 3 rfl) 4).trans rfl, (Blk.cell (H.at 3 rfl) 5).trans rfl⟩, ?_⟩
                repeat (first | (refine wpX_skip rfl ?_; go_simp) | (refine wpX_free rfl rfl rfl (fun K hK => ?_); go_step; refine hK _ _ ?_; clear hK K))
                (refine wpX_yield rfl rfl ((.slice none 0 0)) (fun w hw => by go_simp) ?_; go_simp)
                refine wpX_apX rfl rfl (.tmp 48) (.tmp 51) 48 rfl elemLn H 4 rfl rfl rfl (srcTake0) rfl (by simp) (by have := HYB.out; unfold maxLen; omega) (by have := HYB.out; omega) (N := 1) (by omega) (fun s4 c4 w89 HZ hg9 => ?_)
                clear H hg9
                have H := HZ
                clear HZ
                simp only [List.set_cons_succ, List.set_cons_zero] at H
                try clear C
                skip
                have C := H.cells
                try simp only [cellsOf, cellsM, apartOf, apartM, and_true] at C
                refine ⟨⟨(Blk.cell (H.at 3 rfl) 2).trans rfl, (Blk.cell (H.at 3 rfl) 3).trans rfl, (Blk.cell (H.at 3 rfl) 4).trans rfl, (Blk.cell (H.at 3 rfl) 5).trans rfl⟩, ?_⟩
                repeat (first | (refine wpX_skip rfl ?_; go_simp) | (refine wpX_free rfl rfl rfl (fun K hK => ?_); go_step; refine hK _ _ ?_; clear hK K) | (refine wpX_load rfl rfl rfl (by simp [Stay, OneD, NoD, *]) hs0 (by simp [*]) (fun K hK => ?_); go_step; refine hK _ _ ?_; clear hK K))
                (refine wpX_nil ?_; go_step)
                have H9 := HS.less (L' := [.blk bX #[.int .i64 sets, .int .i64 ways, .int .i64 size, .slice (some ⟨b, o, none⟩) l.length xc] 24, .any F (fun w => LinesOk w ([] : List (Lm × Sv))), .row (.slice s4 (1) c4) 35 4 (1) (([] ++ [((⟨ad, bs, true, p⟩ : Lm), (⟨ra, rn, rc⟩ : Sv))].flatMap lnC) ++ []), .any G (fun w => BytesAt w ⟨ra, rn, rc⟩ bs)]) H (by repeat (first | exact .slnil | refine .cons_cons _ ?_ | refine .cons _ ?_))
                have H8 := H9.permu (L' := [.blk bX #[.int .i64 sets, .int .i64 ways, .int .i64 size, .slice (some ⟨b, o, none⟩) l.length xc] 24, .row (.slice s4 (1) c4) 35 4 (1) (([] ++ [((⟨ad, bs, true, p⟩ : Lm), (⟨ra, rn, rc⟩ : Sv))].flatMap lnC) ++ []), .any F (fun w => LinesOk w ([] : List (Lm × Sv))), .any G (fun w => BytesAt w ⟨ra, rn, rc⟩ bs)]) (List.Perm.cons _ (List.Perm.swap _ _ _))
                rw [show ([] ++ [((⟨ad, bs, true, p⟩ : Lm), (⟨ra, rn, rc⟩ : Sv))].flatMap lnC) ++ [] = [((⟨ad, bs, true, p⟩ : Lm), (⟨ra, rn, rc⟩ : Sv))].flatMap lnC by simp [List.flatMap_append]] at H8
                have H7 := HS.merge (L := [_, _]) H8
                have H6 := HS.weak (L := [_, _]) H7 (K' := fun w => LinesOk w [((⟨ad, bs, true, p⟩ : Lm), (⟨ra, rn, rc⟩ : Sv))]) (fun w' h => fun q hq => by cases List.mem_singleton.1 hq; exact h.2)
                clear H9 H8 H7
                go_wp2_with fail
                go_roundw
                case rel => exact ⟨j + 1, s4, c4, [((⟨ad, bs, true, p⟩ : Lm), (⟨ra, rn, rc⟩ : Sv))], _, by go_num, rfl, by have := HLT.out; omega, by simp, (show Hid _ from fun e => by simp at e), HINS.out ⟨ra, rn, rc⟩, H6⟩
                case measure => simp [intOf]; have := HLT.out; omega
              · obtain ⟨g, cg, hv, -, -⟩ := World.ownsRow.form (H.at 1 rfl) (by omega)
                obtain ⟨rfl, -, rfl⟩ := Value.slice.inj hv
                clear hv hcap
                have HINS := Lib.hid (fun (xv : Sv) => ins_dirty HY.out HY2.out HI.out HLO.out HHI.out xv)
                obtain ⟨ad9, had1, had2⟩ : ∃ ad9 : Addr, (if c = i then some ⟨g, 0, none⟩ else some ⟨g, i * 4, none⟩ : Option Addr) = some ad9 ∧ (0 < ys.length - i → ad9 = ⟨g, i * 4, none⟩) := by
                  have := HCAP.out
                  by_cases e : c = i
                  · rw [if_pos e]; exact ⟨_, rfl, fun h => by omega⟩
                  · rw [if_neg e]; exact ⟨_, rfl, fun h => rfl⟩
                have HAD := Lib.hid had2
                have hic : (i : Int) ≤ c := by have := HCAP.out; have := HI.out; omega
                have hii : (i : Int) ≤ ys.length := by have := HI.out; omega
                clear had2 hi
                go_upto_region 7 with fail
                refine wp_region_xH (by kernel_rfl) (by kernel_rfl) (by kernel_rfl) (by kernel_rfl) (fun _ => False) (H) ?_
                clear H; intro w12 H hz0 hs0
                try clear C
                try simp only [World.size_alloc, List.nil_append, List.cons_append, List.append_assoc] at H hz0
                clear hz0
                try clear w89
                have C := H.cells
                try simp only [cellsOf, cellsM, apartOf, apartM, and_true] at C
                have Z := H.zs
                try simp only [ltsOf, ltsM, and_true] at Z
                have hz0 := Nat.le_refl w12.heap.size
                repeat (first | (refine wpX_skip rfl ?_; go_simp) | (refine wpX_free rfl rfl rfl (fun K hK => ?_); go_step; refine hK _ _ ?_; clear hK K) | (refine wpX_load rfl rfl rfl (by simp [Stay, OneD, NoD, *]) hs0 (by simp [*]) (fun K hK => ?_); go_step; refine hK _ _ ?_; clear hK K))
                (refine wpX_nil ?_; go_step)
                go_step
                go_upto_region 9 with fail
                have hnr := H.nilRow 35 4
                clear H C
                have H := hnr
                clear hnr
                try simp only [List.nil_append, List.cons_append] at H
                try clear C
                try simp only [World.size_alloc, List.nil_append, List.cons_append, List.append_assoc] at H
                have C := H.cells
                try simp only [cellsOf, cellsM, apartOf, apartM, and_true] at C
                refine wp_region_sH (by kernel_rfl) (by kernel_rfl) (by kernel_rfl) (by kernel_rfl) (fun w => w.cell? ⟨bP, 2, none⟩ = some (.int .i64 ad) ∧ w.cell? ⟨bP, 3, none⟩ = some (.slice sa sn sc) ∧ w.cell? ⟨bP, 4, none⟩ = some (.bool true) ∧ w.cell? ⟨bP, 5, none⟩ = some (.bool p)) (H) (fun w0 H => ⟨(Blk.cell (H.at 3 rfl) 2).trans rfl, (Blk.cell (H.at 3 rfl) 3).trans rfl, (Blk.cell (H.at 3 rfl) 4).trans rfl, (Blk.cell (H.at 3 rfl) 5).trans rfl⟩) ?_
                clear H; intro w13 h0 H hz0
                try clear C
                try simp only [World.size_alloc, List.nil_append, List.cons_append, List.append_assoc] at H hz0
                clear hz0
                try clear w12
                have C := H.cells
                try simp only [cellsOf, cellsM, apartOf, apartM, and_true] at C
                repeat (first | (refine wpX_skip rfl ?_; go_simp) | (refine wpX_free rfl rfl rfl (fun K hK => ?_); go_step; refine hK _ _ ?_; clear hK K))
                (refine wpX_yield rfl rfl ((.slice (some ⟨g, 0, none⟩) i c)) (fun w hw => by go_simp) ?_; go_simp)
                refine wpX_apX rfl rfl (.const (.slice none 0 0)) (.tmp 42) 48 rfl elemLn H 4 rfl rfl rfl (srcTake (H.at 1 rfl) HI.out) (by rw [flat_len lnC_len, List.length_take, Nat.min_eq_left HI.out]) (lnC_one _) (by have := HYB.out; unfold maxLen; omega) (by have := HYB.out; omega) (N := i) (by omega) (fun s4 c4 w90 HZ hg9 => ?_)
                clear H hg9
                have H := HZ
                clear HZ
                simp only [List.set_cons_succ, List.set_cons_zero] at H
                try rw [List.nil_append] at H
                try clear C
                skip
                have C := H.cells
                try simp only [cellsOf, cellsM, apartOf, apartM, and_true] at C
                refine ⟨⟨(Blk.cell (H.at 3 rfl) 2).trans rfl, (Blk.cell (H.at 3 rfl) 3).trans rfl, (Blk.cell (H.at 3 rfl) 4).trans rfl, (Blk.cell (H.at 3 rfl) 5).trans rfl⟩, ?_⟩
                repeat (first | (refine wpX_skip rfl ?_; go_simp) | (refine wpX_free rfl rfl rfl (fun K hK => ?_); go_step; refine hK _ _ ?_; clear hK K))
                (refine wpX_yield rfl rfl (.agg #[.int .i64 ad, .slice sa sn sc, .bool true, .bool p]) (fun w hw => by obtain ⟨k0, k1, k2, k3⟩ := hw; go_simp) ?_; go_simp)
                refine wpX_eff rfl rfl (fun _ _ => ?_)
                go_step
                refine (LCP.out _ (HBJ.out.up H.done)).mono ?_
                rintro _ w14 ⟨⟨ra, rn, rc⟩, G, rfl, K⟩
                replace H := H.join K (one_low rfl)
                clear K
                try simp only [List.nil_append, List.cons_append, List.append_assoc] at H
                try clear C
                have C := H.cells
                try simp only [cellsOf, cellsM, apartOf, apartM, and_true] at C
                try clear w90
                dsimp only
                go_step
                refine ⟨⟨(Blk.cell (H.at 3 rfl) 2).trans rfl, (Blk.cell (H.at 3 rfl) 3).trans rfl, (Blk.cell (H.at 3 rfl) 4).trans rfl, (Blk.cell (H.at 3 rfl) 5).trans rfl⟩, ?_⟩
                dsimp only [lnV]
                repeat (first | (refine wpX_skip rfl ?_; go_simp) | (refine wpX_free rfl rfl rfl (fun K hK => ?_); go_step; refine hK _ _ ?_; clear hK K))
                refine wpX_eff rfl rfl (fun _ _ => ?_)
                go_step
                go_step
                generalize hwb : World.alloc _ _ = w15
                replace H := HS.eqW hwb H.alloc
                try simp only [World.size_alloc, List.nil_append, List.cons_append, List.append_assoc] at H
                clear hwb
                generalize w14.heap.size = bQ at H ⊢
                try clear C
                try clear w14
                have C := H.cells
                try simp only [cellsOf, cellsM, apartOf, apartM, and_true] at C
                refine ⟨⟨(Blk.cell (H.at 3 rfl) 2).trans rfl, (Blk.cell (H.at 3 rfl) 3).trans rfl, (Blk.cell (H.at 3 rfl) 4).trans rfl, (Blk.cell (H.at 3 rfl) 5).trans rfl⟩, ?_⟩
                refine wpX_apX rfl rfl (.tmp 43) (.tmp 47) 48 rfl elemLn H 4 rfl rfl rfl (srcOne (bs := bs) (H.at 6 rfl)) (by rfl) (lnC_one _) (by have := HYB.out; unfold maxLen; omega) (by have := HYB.out; omega) (N := i + 1) (by omega) (fun s4 c4 w91 HZ hg9 => ?_)
                clear H hg9
                have H := HZ
                clear HZ
                simp only [List.set_cons_succ, List.set_cons_zero] at H
                try clear C
                skip
                have C := H.cells
                try simp only [cellsOf, cellsM, apartOf, apartM, and_true] at C
                refine ⟨⟨(Blk.cell (H.at 3 rfl) 2).trans rfl, (Blk.cell (H.at 3 rfl) 3).trans rfl, (Blk.cell (H.at 3 rfl) 4).trans rfl, (Blk.cell (H.at 3 rfl) 5).trans rfl⟩, ?_⟩
                repeat (first | (refine wpX_skip rfl ?_; go_simp) | (refine wpX_free rfl rfl rfl (fun K hK => ?_); go_step; refine hK _ _ ?_; clear hK K))
                (refine wpX_yield rfl rfl ((.slice (some ad9) (ys.length - i) (c - i))) (fun w hw => by go_simp) ?_; go_simp)
                refine wpX_apX rfl rfl (.tmp 48) (.tmp 51) 48 rfl elemLn H 4 rfl rfl rfl (srcDrop (H.at 1 rfl) HI.out HAD.out) (by rw [flat_len lnC_len, List.length_drop]) (lnC_one _) (by have := HYB.out; unfold maxLen; omega) (by have := HYB.out; omega) (N := ys.length + 1) (by have := HI.out; omega) (fun s4 c4 w92 HZ hg9 => ?_)
                clear H hg9
                have H := HZ
                clear HZ
                simp only [List.set_cons_succ, List.set_cons_zero] at H
                try clear C
                skip
                have C := H.cells
                try simp only [cellsOf, cellsM, apartOf, apartM, and_true] at C
                refine ⟨⟨(Blk.cell (H.at 3 rfl) 2).trans rfl, (Blk.cell (H.at 3 rfl) 3).trans rfl, (Blk.cell (H.at 3 rfl) 4).trans rfl, (Blk.cell (H.at 3 rfl) 5).trans rfl⟩, ?_⟩
                repeat (first | (refine wpX_skip rfl ?_; go_simp) | (refine wpX_free rfl rfl rfl (fun K hK => ?_); go_step; refine hK _ _ ?_; clear hK K) | (refine wpX_load rfl rfl rfl (by simp [Stay, OneD, NoD, *]) hs0 (by simp [*]) (fun K hK => ?_); go_step; refine hK _ _ ?_; clear hK K))
                (refine wpX_nil ?_; go_step)
                have H9 := HS.less (L' := [.blk bX #[.int .i64 sets, .int .i64 ways, .int .i64 size, .slice (some ⟨b, o, none⟩) l.length xc] 24, .any F (fun w => LinesOk w ys), .row (.slice s4 (ys.length + 1) c4) 35 4 (ys.length + 1) (((ys.take i).flatMap lnC ++ [((⟨ad, bs, true, p⟩ : Lm), (⟨ra, rn, rc⟩ : Sv))].flatMap lnC) ++ (ys.drop i).flatMap lnC), .any G (fun w => BytesAt w ⟨ra, rn, rc⟩ bs)]) H (by repeat (first | exact .slnil | refine .cons_cons _ ?_ | refine .cons _ ?_))
                have H8 := H9.permu (L' := [.blk bX #[.int .i64 sets, .int .i64 ways, .int .i64 size, .slice (some ⟨b, o, none⟩) l.length xc] 24, .row (.slice s4 (ys.length + 1) c4) 35 4 (ys.length + 1) (((ys.take i).flatMap lnC ++ [((⟨ad, bs, true, p⟩ : Lm), (⟨ra, rn, rc⟩ : Sv))].flatMap lnC) ++ (ys.drop i).flatMap lnC), .any F (fun w => LinesOk w ys), .any G (fun w => BytesAt w ⟨ra, rn, rc⟩ bs)]) (List.Perm.cons _ (List.Perm.swap _ _ _))
                rw [show ((ys.take i).flatMap lnC ++ [((⟨ad, bs, true, p⟩ : Lm), (⟨ra, rn, rc⟩ : Sv))].flatMap lnC) ++ (ys.drop i).flatMap lnC = (ys.take i ++ [((⟨ad, bs, true, p⟩ : Lm), (⟨ra, rn, rc⟩ : Sv))] ++ ys.drop i).flatMap lnC by simp [List.flatMap_append]] at H8
                have H7 := HS.merge (L := [_, _]) H8
                have H6 := HS.weak (L := [_, _]) H7 (K' := fun w => LinesOk w (ys.take i ++ [((⟨ad, bs, true, p⟩ : Lm), (⟨ra, rn, rc⟩ : Sv))] ++ ys.drop i)) (fun w' h => linesOk_ins h.1 h.2)
                clear H9 H8 H7
                go_wp2_with fail
                go_roundw
                case rel => exact ⟨j + 1, s4, c4, (ys.take i ++ [((⟨ad, bs, true, p⟩ : Lm), (⟨ra, rn, rc⟩ : Sv))] ++ ys.drop i), _, by go_num, by rw [ins_len9 HI.out], by have := HLT.out; omega, by rw [ins_len9 HI.out]; have := HYJ.out; omega, (show Hid _ from fun e => by simp at e), HINS.out ⟨ra, rn, rc⟩, by rw [ins_len9 HI.out]; exact H6⟩
                case measure => simp [intOf]; have := HLT.out; omega
    · obtain rfl : j = l.length := by omega
      skip
      go_wp2_with fail
      go_ret
      refine ⟨s, c, ys, F, ?_, rfl, HS.less H (by repeat (first | exact .slnil | refine .cons_cons _ ?_ | refine .cons _ ?_))⟩
      have := HY.out
      rw [take_take] at this
      exact this
end Go.Proofs.Ytfmcicmbehjdcaa
