/- cache.Dirty: the dirty lines by rising addresses. -/
import Derived.Test.YtfmcicmbehjdcaaLrSo
import Derived.Test.YtfmcicmbehjdcaaLrFz
namespace Go.Proofs.Ytfmcicmbehjdcaa
set_option linter.unusedSimpArgs false
set_option linter.unusedVariables false
open Go.RowKit
set_option maxRecDepth 100000
attribute [local irreducible] wpX wpF Calls

def isDi (s : Sm) : Bool := s.u && s.ln.d
def dirtyL (l : List Sm) : List Lm := (l.filter isDi).map Sm.ln
theorem dirtyL_yes {l : List Sm} {j : Nat} (hj : j < l.length) (h : isDi l[j]! = true) : dirtyL (l.take (j + 1)) = dirtyL (l.take j) ++ [(l[j]!).ln] := by
  unfold dirtyL
  rw [List.take_add_one, List.getElem?_eq_getElem hj, List.filter_append, List.map_append]
  rw [getElem!_pos l j hj] at h ⊢
  simp [h]
theorem dirtyL_no {l : List Sm} {j : Nat} (hj : j < l.length) (h : isDi l[j]! = false) : dirtyL (l.take (j + 1)) = dirtyL (l.take j) := by
  unfold dirtyL
  rw [List.take_add_one, List.getElem?_eq_getElem hj, List.filter_append, List.map_append]
  rw [getElem!_pos l j hj] at h
  simp [h]
/-- What the dirty lines are. -/
def DirtyR (l : List Sm) (ts : List Lm) : Prop := ts.Perm (dirtyL l) ∧ ts.Pairwise (fun x y => ¬ y.ad < x.ad)
abbrev rowL (s : Option Addr) (n c : Nat) (qs : List (Lm × Sv)) : Item := .row (.slice s n c) 35 4 n (qs.flatMap lnC)
def LinesOk (w : World) (qs : List (Lm × Sv)) : Prop := ∀ q ∈ qs, BytesAt w q.2 q.1.bs
def GivesLines (P : List Lm → Prop) (w : World) (e : Ending) (w' : World) : Prop := ∃ (s : Option Addr) (c : Nat) (qs : List (Lm × Sv)) (F : Nat → Prop), P (qs.map Prod.fst) ∧ e = .returned (.slice s qs.length c) ∧ HS NoD w [rowL s qs.length c qs, .any F (fun w => LinesOk w qs)] w'
theorem linesOk_snoc {w : World} {qs : List (Lm × Sv)} (h : LinesOk w qs) {m : Lm} {x : Sv} (hx : BytesAt w x m.bs) : LinesOk w (qs ++ [(m, x)]) := fun q hq => by
  rcases List.mem_append.1 hq with h1 | h1
  · exact h q h1
  · cases List.mem_singleton.1 h1; exact hx
theorem take_take {α : Type} {l : List α} : l.take l.length = l := List.take_of_length_le (Nat.le_refl _)
set_option maxHeartbeats 16000000 in
theorem cdirty_any (sets ways size : Int) (x : Sv) (l : List Sm) (hs : l.length ≤ 1000) (hsm : ∀ j, j < l.length → (l[j]!).ln.bs.length ≤ 1000) (w : World) (h : SlotsAt w x l) : Calls Try.prog 26 #[caV sets ways size x] w (GivesLines (DirtyR l) w) := by
  obtain ⟨xa, xn, xc⟩ := x
  obtain ⟨q0, hql, hn, hcap, hl, hb⟩ := h
  dsimp only at hn hcap hl
  subst hn
  have hq1 : q0.length = l.length := by rw [← hql, List.length_map]
  have HQ := Lib.hid (show ∀ j, j < l.length → (q0[j]!).s = l[j]! from fun j hj => by rw [← hql, map_get _ _ _ (by omega)])
  have HB := Lib.hid (show ∀ j, j < l.length → BytesAt w (q0[j]!).x (q0[j]!).s.ln.bs from fun j hj => hb j (by omega))
  have HSM := Lib.hid hsm
  have HL := Lib.hid hl
  rw [hq1] at HL
  show Calls Try.prog 26 #[.agg #[.int .i64 sets, .int .i64 ways, .int .i64 size, .slice xa q0.length xc]] w _
  rw [hq1]
  clear hb hl hcap hql hq1 hsm
  go_enter Try.func26, Try.ntmps26
  have H := HS.start NoD w
  go_upto_region 1 with fail
  generalize hwb : w.alloc _ = w1
  replace H := HS.eqW hwb H.alloc
  try simp only [World.size_alloc, List.nil_append, List.cons_append, List.append_assoc] at H
  clear hwb
  generalize w.heap.size = bX at H ⊢
  try clear C
  have C := H.cells
  try simp only [cellsOf, cellsM, apartOf, apartM, and_true] at C
  have hn1 := (H.nilRow 35 4).anyNil
  clear H
  have H := HS.weak (L := [_, _]) hn1 (K' := fun w => LinesOk w []) (fun w' _ q hq => absurd hq List.not_mem_nil)
  clear hn1
  try simp only [List.nil_append, List.cons_append] at H
  try clear C
  try simp only [World.size_alloc, List.nil_append, List.cons_append, List.append_assoc] at H
  have C := H.cells
  try simp only [cellsOf, cellsM, apartOf, apartM, and_true] at C
  go_wp2_with fail
  go_loopw [3, 9] (fun sv jj wr => ∃ (j : Nat) (s : Option Addr) (c : Nat) (ys : List (Lm × Sv)) (F : Nat → Prop), jj = .int .i64 j ∧ sv = .slice s ys.length c ∧ j ≤ l.length ∧ ys.length ≤ j ∧ Hid (ys.map Prod.fst = dirtyL (l.take j)) ∧ HS NoD w [.blk bX #[.int .i64 sets, .int .i64 ways, .int .i64 size, .slice xa l.length xc] 24, rowL s ys.length c ys, .any F (fun w => LinesOk w ys)] wr) (fun _ jj _ => l.length - (intOf jj).toNat)
  case atStart => exact ⟨0, none, 0, [], _, rfl, rfl, Nat.zero_le _, Nat.le_refl _, rfl, H⟩
  case round =>
    clear H C
    obtain ⟨j, s, c, ys, F, rfl, rfl, hj, hyj, HY, H⟩ := hrel
    skip
    try clear C
    try simp only [World.size_alloc, List.nil_append, List.cons_append, List.append_assoc] at H
    have C := H.cells
    try simp only [cellsOf, cellsM, apartOf, apartM, and_true] at C
    by_cases hlt : j < l.length
    · obtain ⟨b, o, rfl, hb, hc⟩ := (H.liesUp HL.out).at hlt
      have h1 := HQ.out j hlt
      have HBJ := Lib.hid (HB.out j hlt)
      have HMJ := Lib.hid (HSM.out j hlt)
      have HYES := Lib.hid (dirtyL_yes hlt)
      have HNO := Lib.hid (dirtyL_no hlt)
      rw [← h1] at HMJ HYES HNO
      have HLT := Lib.hid hlt
      generalize q0[j]! = q at hc HBJ HMJ HYES HNO
      obtain ⟨⟨u, age, ⟨ad, bs, d, p⟩⟩, ⟨sa, sn, sc⟩⟩ := q
      have c0 : wr.cell? ⟨b, o + j * 6, none⟩ = some (.bool u) := hc 0 _ rfl
      have c1 : wr.cell? ⟨b, o + j * 6 + 1, none⟩ = some (.int .i64 age) := hc 1 _ rfl
      have c2 : wr.cell? ⟨b, o + j * 6 + 2, none⟩ = some (.int .i64 ad) := hc 2 _ rfl
      have c3 : wr.cell? ⟨b, o + j * 6 + 3, none⟩ = some (.slice sa sn sc) := hc 3 _ rfl
      have c4 : wr.cell? ⟨b, o + j * 6 + 4, none⟩ = some (.bool d) := hc 4 _ rfl
      have c5 : wr.cell? ⟨b, o + j * 6 + 5, none⟩ = some (.bool p) := hc 5 _ rfl
      have n1 : (b = wr.heap.size) = False := eq_false (by omega)
      have n2 : (wr.heap.size = b) = False := eq_false (by omega)
      have hji : (j : Int) < l.length := by omega
      have hj1000 : (j : Int) < 1000 := by omega
      clear hc h1
      go_upto_region 5 with fail
      clear c0 c1 c2 c3 c4 c5 n1 n2
      generalize hwb : wr.alloc _ = w2
      replace H := HS.eqW hwb H.alloc
      try simp only [World.size_alloc, List.nil_append, List.cons_append, List.append_assoc] at H
      clear hwb
      generalize wr.heap.size = bP at H ⊢
      try clear C
      try clear wr
      have C := H.cells
      try simp only [cellsOf, cellsM, apartOf, apartM, and_true] at C
      dsimp only [isDi] at HYES HNO HMJ HBJ
      skip
      cases u
      case false =>
        have HN2 := Lib.hid (HNO.out rfl)
        go_wp2_with fail
        go_roundw
        case rel => exact ⟨j + 1, s, c, ys, F, by go_num, rfl, by have := HLT.out; omega, by omega, (show Hid _ by rw [HN2.out]; exact HY.out), HS.less H (by repeat (first | exact .slnil | refine .cons_cons _ ?_ | refine .cons _ ?_))⟩
        case measure => simp [intOf]; have := HLT.out; omega
      case true =>
        cases d
        case false =>
          have HN2 := Lib.hid (HNO.out rfl)
          skip
          go_wp2_with fail
          go_roundw
          case rel => exact ⟨j + 1, s, c, ys, F, by go_num, rfl, by have := HLT.out; omega, by omega, (show Hid _ by rw [HN2.out]; exact HY.out), HS.less H (by repeat (first | exact .slnil | refine .cons_cons _ ?_ | refine .cons _ ?_))⟩
          case measure => simp [intOf]; have := HLT.out; omega
        case true =>
          have HY2 := Lib.hid (HYES.out rfl)
          have hys : ys.length ≤ 1000 := by omega
          have LCP := Lib.hid (fun wx (hx : BytesAt wx ⟨sa, sn, sc⟩ bs) => (show Calls Try.prog 42 #[.agg #[.int .i64 ad, .slice sa sn sc, .bool true, .bool p]] wx (GivesLine ⟨ad, bs, true, p⟩ wx) from lcopy_any ⟨ad, bs, true, p⟩ ⟨sa, sn, sc⟩ HMJ.out wx hx))
          skip
          go_wp2_with fail
          refine (LCP.out _ (HBJ.out.up H.done)).mono ?_
          rintro _ w77 ⟨⟨ra, rn, rc⟩, G, rfl, K⟩
          replace H := H.join K (one_low rfl)
          clear K LCP
          try simp only [List.nil_append, List.cons_append] at H
          skip
          try clear C
          try simp only [World.size_alloc, List.nil_append, List.cons_append, List.append_assoc] at H
          have C := H.cells
          try simp only [cellsOf, cellsM, apartOf, apartM, and_true] at C
          dsimp only [lnV]
          go_wp2_with (at_builtin; go_loud (refine wpList_append_H rfl (.tmp 20) (.tmp 24) 48 rfl elemLn H.alloc 1 rfl rfl 5 rfl rfl rfl rfl (by decide) (by unfold maxLen; omega) (by omega) (fun gz cz wz HZ => ?_)); clear H C)
          simp only [List.set_cons_succ, List.set_cons_zero, List.nil_append, List.cons_append, List.append_assoc] at HZ
          have H9 := HS.less (L' := [.blk bX #[.int .i64 sets, .int .i64 ways, .int .i64 size, .slice (some ⟨b, o, none⟩) l.length xc] 24, rowL (some ⟨gz, 0, none⟩) (ys.length + 1) cz (ys ++ [((⟨ad, bs, true, p⟩ : Lm), (⟨ra, rn, rc⟩ : Sv))]), .any F (fun w => LinesOk w ys), .any G (fun w => BytesAt w ⟨ra, rn, rc⟩ bs)]) HZ (by
            dsimp only [rowL]
            rw [List.flatMap_append]
            repeat (first | exact .slnil | refine .cons_cons _ ?_ | refine .cons _ ?_))
          have H8 := HS.merge (L := [_, _]) H9
          have H7 := HS.weak (L := [_, _]) H8 (K' := fun w => LinesOk w (ys ++ [((⟨ad, bs, true, p⟩ : Lm), (⟨ra, rn, rc⟩ : Sv))])) (fun w' h => linesOk_snoc h.1 h.2)
          skip
          go_roundw
          case rel => exact ⟨j + 1, _, _, ys ++ [((⟨ad, bs, true, p⟩ : Lm), (⟨ra, rn, rc⟩ : Sv))], _, by go_num, by rw [List.length_append]; rfl, by have := HLT.out; omega, by rw [List.length_append]; simp; omega, (show Hid _ by rw [HY2.out, List.map_append, HY.out]; rfl), by rw [List.length_append]; exact H7⟩
          case measure => simp [intOf]; have := HLT.out; omega
    · obtain rfl : j = l.length := by omega
      skip
      have HYL := Lib.hid hyj
      have hys : ys.length ≤ 1000 := by omega
      have HSO := Lib.hid (fun wx hr => sortLine_any (sa := s) (c := c) (us := ys) (by omega) wx hr)
      go_wp2_with fail
      refine (HSO.out _ (H.at 1 rfl)).mono ?_
      rintro _ w78 ⟨rfl, ts, hp, hso, hr, hgr⟩
      have hlen : ts.length = ys.length := hp.length_eq
      have HSR := Lib.hid hso
      have HPP := Lib.hid hp
      have HLE := Lib.hid hlen
      have H9 := H.grownAt 1 rfl hgr (.inr ⟨hr, fun k hk => .inl hk⟩)
      clear H C HSO
      simp only [List.set_cons_succ, List.set_cons_zero] at H9
      have H8 := HS.less (L' := [rowL s ys.length c ts, .any F (fun w => LinesOk w ys)]) H9 (by repeat (first | exact .slnil | refine .cons_cons _ ?_ | refine .cons _ ?_))
      have H7 := HS.weak (L := [_]) H8 (K' := fun w => LinesOk w ts) (fun w' h q hq => h q (HPP.out.mem_iff.1 hq))
      clear hso hp hlen hr hgr H8 H9
      skip
      go_wp2_with fail
      go_ret
      refine ⟨s, c, ts, F, ⟨?_, ?_⟩, by rw [HLE.out]; rfl, by rw [HLE.out]; exact H7⟩
      · have := HPP.out.map Prod.fst
        rw [HY.out, take_take] at this
        exact this
      · rw [List.pairwise_map]
        exact HSR.out.imp fun h => by omega
end Go.Proofs.Ytfmcicmbehjdcaa
