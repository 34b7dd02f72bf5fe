/- ref30.SameList at equal lists, and what Dirty and Flush hand back, frozen. -/
import Derived.Test.YtfmcicmbehjdcaaLrDr
import Derived.Test.YtfmcicmbehjdcaaLrFl
import Derived.Test.YtfmcicmbehjdcaaLrG
namespace Go.Proofs.Ytfmcicmbehjdcaa
set_option linter.unusedSimpArgs false
set_option linter.unusedVariables false
open Go.RowKit
set_option maxRecDepth 100000
attribute [local irreducible] wpX wpF Calls

/-- Lines lie in memory. -/
def LinesAt (w : World) (x : Sv) (ms : List Lm) : Prop := ∃ qs : List (Lm × Sv), qs.map Prod.fst = ms ∧ x.n = qs.length ∧ CapOk x ∧ Lies w w.heap.size x.sa 4 qs.length (fun j => lnC qs[j]!) ∧ LinesOk w qs
theorem LinesAt.up {w w' : World} {x : Sv} {ms : List Lm} (h : LinesAt w x ms) (hb : Below w.heap.size w w') : LinesAt w' x ms := by
  obtain ⟨qs, h1, h2, h3, h4, h5⟩ := h
  exact ⟨qs, h1, h2, h3, h4.up hb, fun q hq => (h5 q hq).up hb⟩
theorem linesAt_of {w : World} {s : Option Addr} {n c : Nat} {qs : List (Lm × Sv)} (hr : w.ownsRow 0 35 4 (.slice s n c) n (qs.flatMap lnC)) (hn : n = qs.length) (h : LinesOk w qs) : LinesAt w ⟨s, n, c⟩ (qs.map Prod.fst) := by
  subst hn
  exact ⟨qs, rfl, rfl, row_capOk hr, ownsRow_lies lnC_len rfl hr, h⟩
def GivesLinesF (P : List Lm → Prop) (w : World) (e : Ending) (w' : World) : Prop := ∃ (ms : List Lm) (x : Sv) (F : Nat → Prop), P ms ∧ e = .returned (.slice x.sa x.n x.c) ∧ HS NoD w [.any F (fun w => LinesAt w x ms)] w'
theorem GivesLines.fz {P : List Lm → Prop} {w w' : World} {e : Ending} (h : GivesLines P w e w') : GivesLinesF P w e w' := by
  obtain ⟨s, c, qs, F, hp, he, K⟩ := h
  have h1 : HS NoD w ([.any F (fun w => LinesOk w qs)] ++ [rowL s qs.length c qs]) w' := K.permu (List.Perm.swap _ _ _)
  have h2 := HS.anyOf h1 rfl
  have h3 := HS.merge (L := []) h2
  have h4 := HS.weak (L := []) h3 (K' := fun w => LinesAt w ⟨s, qs.length, c⟩ (qs.map Prod.fst)) fun w hh => linesAt_of (ownsRow_zero hh.2) rfl hh.1
  exact ⟨_, ⟨s, qs.length, c⟩, _, hp, he, h4⟩
def GivesCacheF (sets ways size : Int) (l : List Sm) (w : World) (e : Ending) (w' : World) : Prop := ∃ (x : Sv) (F : Nat → Prop), e = .returned (caV sets ways size x) ∧ HS NoD w [.any F (fun w => SlotsAt w x l)] w'
theorem GivesCache.fz {sets ways size : Int} {l : List Sm} {w w' : World} {e : Ending} (h : GivesCache sets ways size l w e w') : GivesCacheF sets ways size l w e w' := by
  obtain ⟨s, c, qs, F, hq, he, K⟩ := h
  obtain ⟨F', K'⟩ := HS.freeze (L := []) (K' := fun _ => True) K rfl (fun w h => ⟨h, trivial⟩)
  rw [hq] at K'
  exact ⟨_, F', he, HS.weak (L := []) K' fun w h => h.1⟩
theorem cflush_f (sets ways size : Int) (x : Sv) (l : List Sm) (hs : SmallL l) (w : World) (h : SlotsAt w x l) : Calls Try.prog 25 #[caV sets ways size x] w (GivesCacheF sets ways size (flushL l) w) := (cflush_any sets ways size x l hs w h).mono fun _ _ h => h.fz
theorem r31flush_f (sets ways size : Int) (x : Sv) (l : List Sm) (hs : SmallL l) (w : World) (h : SlotsAt w x l) : Calls Try.prog 32 #[caV sets ways size x] w (GivesCacheF sets ways size (flushL l) w) := (r31flush_any sets ways size x l hs w h).mono fun _ _ h => h.fz
theorem cdirty_f (sets ways size : Int) (x : Sv) (l : List Sm) (hs : SmallL l) (w : World) (h : SlotsAt w x l) : Calls Try.prog 26 #[caV sets ways size x] w (GivesLinesF (DirtyR l) w) := (cdirty_any sets ways size x l hs.1 hs.2 w h).mono fun _ _ h => h.fz
theorem r31dirty_f (sets ways size : Int) (x : Sv) (l : List Sm) (hs : SmallL l) (w : World) (h : SlotsAt w x l) : Calls Try.prog 31 #[caV sets ways size x] w (GivesLinesF (DirtyR l) w) := (r31dirty_any sets ways size x l hs.1 hs.2 w h).mono fun _ _ h => h.fz
set_option maxHeartbeats 8000000 in
theorem sameList_any (x y : Sv) (ms : List Lm) (hs : ms.length ≤ 1000000) (w : World) (hx : LinesAt w x ms) (hy : LinesAt w y ms) : Calls Try.prog 30 #[.slice x.sa x.n x.c, .slice y.sa y.n y.c] w (Gives (.bool true) w) := by
  obtain ⟨xa, xn, xc⟩ := x
  obtain ⟨ya, yn, yc⟩ := y
  obtain ⟨q0, hql, hn, hcap, hl, hb⟩ := hx
  obtain ⟨r0, hrl, hrn, hrcap, hrr, hrb⟩ := hy
  dsimp only at hn hcap hl hrn hrcap hrr
  subst hn hrn
  have hq1 : q0.length = ms.length := by rw [← hql, List.length_map]
  have hr1 : r0.length = ms.length := by rw [← hrl, List.length_map]
  have HQ := Lib.hid (show ∀ j, j < ms.length → (q0[j]!).1 = ms[j]! from fun j hj => by rw [← hql, map_get _ _ _ (by omega)])
  have HR := Lib.hid (show ∀ j, j < ms.length → (r0[j]!).1 = ms[j]! from fun j hj => by rw [← hrl, map_get _ _ _ (by omega)])
  have HB := Lib.hid (show ∀ j, j < ms.length → BytesAt w (q0[j]!).2 (q0[j]!).1.bs from fun j hj => hb _ (by rw [getElem!_pos q0 j (by omega)]; exact List.getElem_mem _))
  have HRB := Lib.hid (show ∀ j, j < ms.length → BytesAt w (r0[j]!).2 (r0[j]!).1.bs from fun j hj => hrb _ (by rw [getElem!_pos r0 j (by omega)]; exact List.getElem_mem _))
  have HL := Lib.hid hl
  have HRL := Lib.hid hrr
  rw [hq1] at HL
  rw [hr1] at HRL
  dsimp only
  rw [hq1, hr1]
  clear hb hl hrb hrr hcap hrcap hql hrl hq1 hr1
  go_enter Try.func30, Try.ntmps30
  have H := HS.start NoD w
  go_wp2_with fail
  go_loopw [5, 6, 14] (fun _ _ jj wr => ∃ (j : Nat), jj = .int .i64 j ∧ j ≤ ms.length ∧ HS NoD w [] wr) (fun _ _ jj _ => ms.length - (intOf jj).toNat)
  case atStart => exact ⟨0, rfl, Nat.zero_le _, H⟩
  case round =>
    clear H
    try clear C
    obtain ⟨j, rfl, hj, H⟩ := hrel
    skip
    have C : True := trivial
    by_cases hlt : j < ms.length
    · obtain ⟨b, o, e1, hb, hc⟩ := (H.liesUp HL.out).at hlt
      obtain ⟨b', o', e2, hb', hd⟩ := (H.liesUp HRL.out).at hlt
      have HBJ := Lib.hid (HB.out j hlt)
      have HRJ := Lib.hid (HRB.out j hlt)
      have h1 := HQ.out j hlt
      have h2 := HR.out j hlt
      have HDL := Lib.hid (fun (wx : World) (hx : Lies wx wx.heap.size ya 4 ms.length (fun j => lnC r0[j]!)) => show (∀ i u, (lnC r0[j]!)[i]? = some u → wx.cell? ⟨b', o' + j * 4 + i, none⟩ = some u) ∧ b' < wx.heap.size from by
        obtain ⟨b2, o2, e9, hb2, hd2⟩ := hx.at hlt
        rw [e2] at e9
        obtain ⟨rfl, rfl⟩ : b' = b2 ∧ o' = o2 := by simpa using e9
        exact ⟨hd2, hb2⟩)
      clear hd
      subst e1 e2
      generalize q0[j]! = q at hc HBJ h1
      generalize r0[j]! = r at HDL HRJ h2
      obtain ⟨m, ⟨sa, sn, sc⟩⟩ := q
      obtain ⟨m2, ⟨ta, tn, tc⟩⟩ := r
      dsimp only at h1 h2
      rw [← h1] at h2
      subst h2
      clear h1
      obtain ⟨ad, bs, d, p⟩ := m2
      have HSM := Lib.hid (fun wx h1 h2 => (show Calls Try.prog 21 #[.agg #[.int .i64 ad, .slice sa sn sc, .bool d, .bool p], .agg #[.int .i64 ad, .slice ta tn tc, .bool d, .bool p]] wx (Gives (.bool true) wx) from l30same_any ⟨ad, bs, d, p⟩ ⟨sa, sn, sc⟩ ⟨ta, tn, tc⟩ wx h1 h2))
      have c0 : wr.cell? ⟨b, o + j * 4, none⟩ = some (.int .i64 ad) := hc 0 _ rfl
      have c1 : wr.cell? ⟨b, o + j * 4 + 1, none⟩ = some (.slice sa sn sc) := hc 1 _ rfl
      have c2 : wr.cell? ⟨b, o + j * 4 + 2, none⟩ = some (.bool d) := hc 2 _ rfl
      have c3 : wr.cell? ⟨b, o + j * 4 + 3, none⟩ = some (.bool p) := hc 3 _ rfl
      have n1 : (b = wr.heap.size) = False := eq_false (by omega)
      have n2 : (wr.heap.size = b) = False := eq_false (by omega)
      have hji : (j : Int) < ms.length := by omega
      clear hc hb
      go_upto_region 6 with fail
      clear c0 c1 c2 c3 n1 n2
      generalize hwb : wr.alloc _ = w1
      replace H := HS.eqW hwb H.alloc
      try simp only [World.size_alloc, List.nil_append, List.cons_append, List.append_assoc] at H
      clear hwb
      generalize wr.heap.size = bP at H ⊢
      try clear C
      try clear wr
      have C := H.cells
      try simp only [cellsOf, cellsM, apartOf, apartM, and_true] at C
      refine wp_region_xH (by kernel_rfl) (by kernel_rfl) (by kernel_rfl) (by kernel_rfl) (fun _ => False) (H) ?_
      clear H; intro w2 H hz0 hs0
      try clear C
      try simp only [World.size_alloc, List.nil_append, List.cons_append, List.append_assoc] at H hz0
      clear hz0
      try clear w1
      have C := H.cells
      try simp only [cellsOf, cellsM, apartOf, apartM, and_true] at C
      have Z := H.zs
      try simp only [ltsOf, ltsM, and_true] at Z
      have hz0 := Nat.le_refl w2.heap.size
      obtain ⟨hc, hbw⟩ := HDL.out _ (H.liesUp HRL.out)
      have c0 : w2.cell? ⟨b', o' + j * 4, none⟩ = some (.int .i64 ad) := hc 0 _ rfl
      have c1 : w2.cell? ⟨b', o' + j * 4 + 1, none⟩ = some (.slice ta tn tc) := hc 1 _ rfl
      have c2 : w2.cell? ⟨b', o' + j * 4 + 2, none⟩ = some (.bool d) := hc 2 _ rfl
      have c3 : w2.cell? ⟨b', o' + j * 4 + 3, none⟩ = some (.bool p) := hc 3 _ rfl
      clear hc
      repeat (first | (refine wpX_skip rfl ?_; go_simp) | (refine wpX_free rfl rfl rfl (fun K hK => ?_); go_step; refine hK _ _ ?_; clear hK K) | (refine wpX_load rfl rfl rfl (by simp [Stay, OneD, NoD, *]) hs0 (by simp [*]) (fun K hK => ?_); go_step; refine hK _ _ ?_; clear hK K))
      refine wpX_eff rfl rfl (fun _ _ => ?_)
      go_step
      refine (HSM.out _ (HBJ.out.up H.done) (HRJ.out.up H.done)).mono ?_
      rintro _ w3 ⟨rfl, hb⟩
      replace hs0 := hs0.belowS hz0 hb
      replace hz0 := Nat.le_trans hz0 hb.size
      replace H := H.below hb
      clear hb
      try clear C
      have C := H.cells
      try simp only [cellsOf, cellsM, apartOf, apartM, and_true] at C
      try clear w2
      dsimp only
      go_step
      refine ⟨hs0, ?_⟩
      repeat (first | (refine wpX_skip rfl ?_; go_simp) | (refine wpX_free rfl rfl rfl (fun K hK => ?_); go_step; refine hK _ _ ?_; clear hK K) | (refine wpX_load rfl rfl rfl (by simp [Stay, OneD, NoD, *]) hs0 (by simp [*]) (fun K hK => ?_); go_step; refine hK _ _ ?_; clear hK K))
      (refine wpX_nil ?_; go_step)
      go_wp2_with fail
      go_roundw
      case rel => exact ⟨j + 1, by go_num, by omega, HS.less H (by repeat (first | exact .slnil | refine .cons_cons _ ?_ | refine .cons _ ?_))⟩
      case measure => simp [intOf]; omega
    · skip
      go_wp2_with fail
      go_ret
      exact ⟨rfl, H.done⟩
end Go.Proofs.Ytfmcicmbehjdcaa
