/- core.Copy and the reference's: copies of memories that share nothing. -/
import Derived.Test.YtplflpmkomeadaaDoorCeC
namespace Go.Proofs.YtplflpmkomeadaaDoor
set_option linter.unusedSimpArgs false
set_option linter.unusedVariables false
open Go.RowKit
set_option maxRecDepth 100000
attribute [local irreducible] wpX wpF Calls

/-- A memory whose lists are short. -/
structure SmallM (m : Mm) : Prop where
  ws : m.ws.length ≤ 1000
  fs : m.fs.length ≤ 1000
  bs : ∀ x ∈ m.ws, x.bs.length ≤ 140737488355328
theorem SmallM.long {m : Mm} (h : SmallM m) : LongM m := ⟨Nat.le_trans h.ws (by decide), Nat.le_trans h.fs (by decide), fun x hx => Nat.le_trans (h.bs x hx) (by decide)⟩
set_option maxHeartbeats 2000000 in
theorem cloneU8 {sa : Option Addr} (c : Nat) {xs : List Int} (hx : xs.length ≤ 140737488355328) (h1 : ∀ u ∈ xs.flatMap bC1, u.oneCell' = true) (w : World) (hl : Lies w w.heap.size sa 1 xs.length (fun j => bC1 xs[j]!)) :
    Calls Tryd.prog 62 #[.slice sa xs.length c] w (GivesS (fun v => v) 5 1 xs.length (xs.flatMap bC1) w) := by
  obtain ⟨i, i1, i2, i3, i4⟩ := elemBy.hi
  have q22 : ∀ (w : World) (a : Option Addr) (n c n' c' : Nat), (binOp .eql 48 (.slice a n c) (.slice none n' c')).run Tryd.prog w = .ok (.bool a.isNone) w := fun w a n c n' c' => Lib.run_eql_slice_nil w _ _ a n c n' c' Tryd.underlying48
  by_cases hxs : xs = []
  · subst hxs
    clear hl
    cases sa with
    | none =>
      show Calls Tryd.prog 62 #[.slice none 0 c] w _
      go_enter Tryd.func62, Tryd.ntmps62
      have H := HS.start NoD w
      go_wp2_with fail
      go_ret
      exact ⟨none, 0, rfl, World.ownsRow_nil _ _ _ _, H.done⟩
    | some a =>
      show Calls Tryd.prog 62 #[.slice (some a) 0 c] w _
      go_enter Tryd.func62, Tryd.ntmps62
      have H := HS.start NoD w
      go_wp2_with fail
      go_ret
      exact ⟨_, _, rfl, World.ownsRow_made w #[] 0 (Nat.le_refl _) (Nat.zero_le _) rfl, H.alloc.done⟩
  · have hpos : 0 < xs.length := List.length_pos_iff.2 hxs
    obtain ⟨b, o, rfl, hb, -⟩ := hl.at hpos
    have HC := Lib.hid (Lies.flatCells bC1_len (by decide) hl)
    have H1 := Lib.hid h1
    clear hl h1
    go_enter Tryd.func62, Tryd.ntmps62
    have H := HS.start NoD w
    go_upto_region 3 with fail
    go_wp2_with (at_builtin; refine wpList_append_lies _ rfl (.tmp 5) (.tmp 6) 48 rfl w.heap.size 5 i _ 1 1 elemBy.ht i1 i2 i3 i4 elemBy.hzs elemBy.pos _ 0 [] rfl (World.ownsRow_made w #[] 0 (Nat.le_refl _) (Nat.zero_le _) rfl) ⟨b, o, none⟩ xs.length c (xs.flatMap bC1) rfl (flat_len bC1_len xs) (fun j u hu => by rw [Addr.add_lit]; exact (((Below.refl _ _).alloc (Nat.le_refl _) _).cell (p := ⟨b, o + j, none⟩) hb).trans (HC.out j u hu)) H1.out hpos (by unfold maxLen; omega) (by omega) (by simp) _ rfl (fun g cap wz h2 h3 h4 h5 => ?_))
    go_ret
    exact ⟨_, _, rfl, by simpa using h2, ((Below.refl _ w).alloc (Nat.le_refl _) _).grown h3 (by simp) (by intro k hk; simp [Act.eval, Value.ownBlock] at hk; omega)⟩
def GivesBy (bs : List Int) (w : World) (e : Ending) (w' : World) : Prop := ∃ (x : Sv) (F : Nat → Prop), e = .returned (.slice x.sa x.n x.c) ∧ HS NoD w [.any F (fun w => BytesAt w x bs)] w'
theorem cloneBy_f (x : Sv) (bs : List Int) (hl : bs.length ≤ 140737488355328) (w : World) (h : BytesAt w x bs) : Calls Tryd.prog 62 #[.slice x.sa x.n x.c] w (GivesBy bs w) := by
  obtain ⟨sa, n, c⟩ := x
  obtain rfl : n = bs.length := h.len
  refine (cloneU8 (sa := sa) c (xs := bs) hl (bC1_one bs) w h.lies).mono ?_
  rintro _ w2 ⟨s2, c2, rfl, hr, hb2⟩
  have H := (HS.start NoD w).getsRow hb2 hr
  have H8 := HS.anyOf (L := []) H rfl
  exact ⟨⟨s2, bs.length, c2⟩, _, rfl, HS.weak (L := []) H8 fun w' h => bytes_row rfl h⟩
theorem cw_sym : ∀ (qs : List (Wm × Sv)) (j : Nat) (x : Sv), j < qs.length → (qs.flatMap cwC).set (j * 3 + 1) (.slice x.sa x.n x.c) = (qs.set j ((qs[j]!).1, x)).flatMap cwC
  | [], j, x, h => absurd h (Nat.not_lt_zero _)
  | q :: qs, 0, x, h => by simp [cwC]
  | q :: qs, j + 1, x, h => by
    have := cw_sym qs j x (by simpa using h)
    rw [List.set_cons_succ, List.flatMap_cons, List.flatMap_cons, show (q :: qs)[j + 1]! = qs[j]! from rfl, ← this]
    rw [show (j + 1) * 3 + 1 = j * 3 + 1 + 3 by omega]
    simp [cwC]
theorem cw_mid {ys q0 : List (Wm × Sv)} {j : Nat} (hj : j < q0.length) (hm : ys.map Prod.fst = (q0.take j).map Prod.fst) (x : Sv) : (ys ++ [((q0[j]!).1, x)]).map Prod.fst = (q0.take (j + 1)).map Prod.fst := by
  rw [List.map_append, hm, List.take_add_one, List.map_append, List.getElem?_eq_getElem hj, getElem!_pos q0 j hj]
  rfl
theorem cwOk_snoc {w : World} {ys : List (Wm × Sv)} (h : CwOk w ys) {m : Wm} {x : Sv} (hb : BytesAt w x m.bs) : CwOk w (ys ++ [(m, x)]) := fun q hq => by
  rcases List.mem_append.1 hq with h1 | h1
  · exact h q h1
  · cases List.mem_singleton.1 h1; exact hb
theorem mem_of_rows {w : World} {s t : Option Addr} {n c k d : Nat} {qs : List (Wm × Sv)} {fs : List Fa} (h1 : w.ownsRow 0 50 3 (.slice s n c) n (qs.flatMap cwC)) (hn : n = qs.length) (h2 : CwOk w qs) (h3 : w.ownsRow 0 38 11 (.slice t k d) k (fs.flatMap cfC)) (hk : k = fs.length) : CwLie w ⟨s, n, c⟩ qs ∧ CfAt w ⟨t, k, d⟩ fs :=
  ⟨cwLie_of h1 hn h2, cfAt_of h3 hk⟩
/-- Rows of words, their bytes and a row of faults are a memory. -/
theorem HS.memOf {D : Nat → Prop} {W w : World} {L : List Item} {s t : Option Addr} {n c k d : Nat} {qs : List (Wm × Sv)} {F : Nat → Prop} {fs : List Fa} (h : HS D W (L ++ [rowCw s n c qs, anyCw F qs, rowCf t k d fs]) w) (hn : n = qs.length) (hk : k = fs.length) : ∃ G, HS D W (L ++ [.any G (fun w => CwLie w ⟨s, n, c⟩ qs ∧ CfAt w ⟨t, k, d⟩ fs)]) w := by
  have h1 : HS D W ((L ++ [rowCw s n c qs, anyCw F qs]) ++ [rowCf t k d fs]) w := by rw [List.append_assoc]; exact h
  have h2 := HS.anyOf h1 rfl
  have h3 : HS D W ((L ++ [rowCw s n c qs]) ++ [anyCw F qs, .any (rowCf t k d fs).fp (rowCf t k d fs).ok]) w := by
    rw [List.append_assoc] at h2 ⊢; exact h2
  have h4 := HS.merge h3
  have h5 : HS D W (L ++ [.any (fun k' => F k' ∨ (rowCf t k d fs).fp k') (fun w => CwOk w qs ∧ (rowCf t k d fs).ok w), rowCw s n c qs]) w := by
    refine HS.permu (by rw [List.append_assoc] at h4; exact h4) ?_
    exact List.Perm.append_left _ (List.Perm.swap _ _ _)
  have h6 : HS D W ((L ++ [.any (fun k' => F k' ∨ (rowCf t k d fs).fp k') (fun w => CwOk w qs ∧ (rowCf t k d fs).ok w)]) ++ [rowCw s n c qs]) w := by rw [List.append_assoc]; exact h5
  have h7 := HS.anyOf h6 rfl
  have h8 : HS D W (L ++ [.any (fun k' => F k' ∨ (rowCf t k d fs).fp k') (fun w => CwOk w qs ∧ (rowCf t k d fs).ok w), .any (rowCw s n c qs).fp (rowCw s n c qs).ok]) w := by rw [List.append_assoc] at h7; exact h7
  have h9 := HS.merge h8
  exact ⟨_, HS.weak h9 (fun w' hw => mem_of_rows hw.2 hn hw.1.1 hw.1.2 hk)⟩
/-- A call that hands back a memory whose rows are the caller's own. -/
def GivesMeR (m : Mm) (w : World) (e : Ending) (w' : World) : Prop := ∃ (s : Option Addr) (c : Nat) (t : Option Addr) (d : Nat) (qs : List (Wm × Sv)) (F : Nat → Prop), qs.map Prod.fst = m.ws ∧ e = .returned (meV m ⟨s, qs.length, c⟩ ⟨t, m.fs.length, d⟩) ∧ HS NoD w [rowCw s qs.length c qs, anyCw F qs, rowCf t m.fs.length d m.fs] w'
theorem GivesMeR.me {m : Mm} {w w' : World} {e : Ending} (h : GivesMeR m w e w') : GivesMe m w e w' := by
  obtain ⟨s, c, t, d, qs, F, h1, h2, h3⟩ := h
  obtain ⟨G, h4⟩ := HS.memOf (L := []) h3 rfl rfl
  exact ⟨⟨s, qs.length, c⟩, ⟨t, m.fs.length, d⟩, qs, G, h1, h2, h4⟩
set_option maxHeartbeats 8000000 in
theorem cecopyR_any (M : Mm) (x y : Sv) (hs : SmallM M) (w : World) (h : MeAt w x y M) : Calls Tryd.prog 41 #[meV M x y] w (GivesMeR M w) := by
  obtain ⟨s0, s1, s2, s3, s4, s5, kd, dt, ck, fx, ws, fs⟩ := M
  obtain ⟨xa, xn, xc⟩ := x
  obtain ⟨ya, yn, yc⟩ := y
  obtain ⟨⟨q0, rfl, hn, hcap, hl, hb⟩, hn2, hcap2, hl2⟩ := h
  dsimp only at hn hcap hl hn2 hcap2 hl2
  subst hn hn2
  obtain ⟨hq1000, hf1000, hsm0⟩ := hs
  dsimp only at hq1000 hf1000 hsm0
  rw [List.length_map] at hq1000
  have hsm : ∀ j, j < q0.length → (q0[j]!).1.bs.length ≤ 140737488355328 := fun j hj => hsm0 _ (map_mem2 hj)
  have HB := Lib.hid (fun j (hj : j < q0.length) => hb _ (mem_bang2 hj))
  have HSM := Lib.hid hsm
  have HL := Lib.hid hl
  have HCP := Lib.hid hcap
  have HL2 := Lib.hid hl2
  have HCP2 := Lib.hid hcap2
  have HCW := Lib.hid (fun wx hx => cloneCw (sa := xa) xc (xs := q0) hq1000 (cwC_one q0) wx hx)
  have HCF := Lib.hid (fun wx hx => cloneCf (sa := ya) yc (xs := fs) hf1000 (cfC_one fs) wx hx)
  have HQ1 := Lib.hid hq1000
  have HF1 := Lib.hid hf1000
  clear hb hsm hsm0 hcap hl hl2 hcap2
  show Calls Tryd.prog 41 #[.agg #[.int .i64 s0, .int .i64 s1, .int .i64 s2, .int .i64 s3, .int .i64 s4, .int .i64 s5, .int .i64 kd, .int .i64 dt, .int .i64 ck, .int .i64 fx, .slice xa q0.length xc, .slice ya fs.length yc]] w _
  go_enter Tryd.func41, Tryd.ntmps41
  have H := HS.start NoD w
  go_upto_region 1 with fail
  generalize hwb : (w.alloc _).alloc _ = w1
  replace H := HS.eqW hwb H.alloc.alloc
  try simp only [World.size_alloc, List.nil_append, List.cons_append, List.append_assoc] at H
  clear hwb
  generalize w.heap.size + 1 = bR at H ⊢
  generalize w.heap.size = bX at H ⊢
  try clear C
  have C := H.cells
  try simp only [cellsOf, cellsM, apartOf, apartM, and_true] at C
  go_region_law (first
    | (go_simp; go_at_call 75
       refine (HCW.out _ (H.drew.liesUp HL.out)).mono ?_
       rintro _ wa ⟨sW, cW, rfl, hr1, hb1⟩
       have H1 := H.drew.getsRow hb1 hr1
       have C1 := H1.cells
       simp only [cellsOf, apartOf, and_true, List.cons_append, List.nil_append] at C1
       clear hr1 hb1)
    | (go_simp; go_at_call 76
       refine (HCF.out _ (H1.liesUp HL2.out)).mono ?_
       rintro _ wb ⟨sF, cF, rfl, hr2, hb2⟩
       have H2 := H1.getsRow hb2 hr2
       have C2 := H2.cells
       simp only [cellsOf, apartOf, and_true, List.cons_append, List.nil_append] at C2
       clear hr2 hb2))
  all_goals
    go_step
    generalize hwb : World.setCell _ _ _ = w3
    have H := HS.eqW hwb ((H2.setTo (o := 10) (v := .slice sW q0.length cW) 0 rfl rfl).setTo (o := 11) (v := .slice sF fs.length cF) 0 rfl rfl)
    clear hwb H2 C2 H1 C1 HCW HCF C
    simp only [List.set_cons_succ, List.set_cons_zero, List.nil_append, List.cons_append] at H
    have hn1 := H.anyNil
    clear H
    have H := hn1
    clear hn1
    try simp only [List.nil_append, List.cons_append] at H
    skip
    try clear C
    try simp only [World.size_alloc, List.nil_append, List.cons_append, List.append_assoc] at H
    have C := H.cells
    try simp only [cellsOf, cellsM, apartOf, apartM, and_true] at C
    go_wp2_with fail
    go_loopw [3, 15] (fun _ jj wr => ∃ (j : Nat) (ys : List (Wm × Sv)) (F : Nat → Prop), jj = .int .i64 j ∧ j ≤ q0.length ∧ ys.length = j ∧ Hid (ys.map Prod.fst = (q0.take j).map Prod.fst) ∧ HS NoD w [.blk bX #[.int .i64 s0, .int .i64 s1, .int .i64 s2, .int .i64 s3, .int .i64 s4, .int .i64 s5, .int .i64 kd, .int .i64 dt, .int .i64 ck, .int .i64 fx, .slice sW q0.length cW, .slice sF fs.length cF] 34, .blk bR #[.int .i64 0, .int .i64 0, .int .i64 0, .int .i64 0, .int .i64 0, .int .i64 0, .int .i64 0, .int .i64 0, .int .i64 0, .int .i64 0, .slice none 0 0, .slice none 0 0] 34, rowCw sW q0.length cW (ys ++ q0.drop j), rowCf sF fs.length cF fs, anyCw F ys] wr) (fun _ jj _ => q0.length - (intOf jj).toNat)
    case atStart =>
      refine ⟨0, [], fun _ => False, rfl, Nat.zero_le _, rfl, rfl, ?_⟩
      rw [List.drop_zero, List.nil_append]
      exact HS.weak (L := [_, _, _, _]) H (fun _ _ q hq => absurd hq List.not_mem_nil)
    case round =>
      clear H C
      obtain ⟨j, ys, F, rfl, hj, hyl, HMP, H⟩ := hrel
      skip
      try clear C
      try simp only [World.size_alloc, List.nil_append, List.cons_append, List.append_assoc] at H
      have C := H.cells
      try simp only [cellsOf, cellsM, apartOf, apartM, and_true] at C
      by_cases hlt : j < q0.length
      · obtain ⟨g, cap, hv, -, -⟩ := World.ownsRow.form (H.at 2 rfl) (by omega)
        obtain ⟨rfl, -, rfl⟩ := Value.slice.inj hv
        clear hv
        have HYL := Lib.hid hyl
        have HLN := Lib.hid (show (ys ++ q0.drop j).length = q0.length by rw [List.length_append, List.length_drop]; omega)
        have HMG := Lib.hid (mid_get hlt hyl)
        have HMS := Lib.hid (fun x => mid_set hlt hyl x)
        have HSL := Lib.hid (fun (x : Sv) => cw_sym (ys ++ q0.drop j) j x (by rw [HLN.out]; exact hlt))
        have HBJ := Lib.hid (HB.out j hlt)
        have HMM := Lib.hid (fun x => cw_mid hlt HMP.out x)
        have LCP := Lib.hid (fun wx hx => cloneBy_f (q0[j]!).2 (q0[j]!).1.bs (HSM.out j hlt) wx hx)
        generalize hqj : q0[j]! = q at HBJ LCP HMM HMG
        have HMG2 := Lib.hid (HMG.out)
        clear hqj HMG
        obtain ⟨⟨ix, bs, po⟩, ⟨za, zn, zc⟩⟩ := q
        replace LCP := Lib.hid (fun wx hx => (show Calls Tryd.prog 62 #[.slice za zn zc] wx (GivesBy bs wx) from LCP.out wx hx))
        have hgl : g < wr.heap.size := Item.lt (H.at 2 rfl) (k := g) rfl
        have q1 : (g = wr.heap.size) = False := eq_false (by omega)
        have q2 : (wr.heap.size = g) = False := eq_false (by omega)
        have HCJ := Lib.hid (fun m u (hu : (cwC (⟨ix, bs, po⟩, ⟨za, zn, zc⟩))[m]? = some u) => flat_get cwC_len (ys ++ q0.drop j) j m u (by rw [HLN.out]; exact hlt) (by rw [HMG2.out]; exact hu))
        have HFL := Lib.hid (show ((ys ++ q0.drop j).flatMap cwC).length = q0.length * 3 by rw [flat_len cwC_len, HLN.out])
        have HKF := Lib.hid (show ∀ w, (fun w => CwOk w ys) w → CwOk w ys from fun _ h => h)
        have HAL := Lib.hid (fun (x' : Sv) => show (((ys ++ q0.drop j).flatMap cwC).set (j * 3 + 1) (.slice x'.sa x'.n x'.c)) = (ys ++ [((⟨ix, bs, po⟩ : Wm), x')] ++ q0.drop (j + 1)).flatMap cwC by
          have h1 := HSL.out x'
          rw [HMG2.out, HMS.out] at h1
          exact h1)
        clear hyl HSL HMS HMG2
        go_upto_region 5 with fail
        dsimp only [rowCw, anyCw] at H
        generalize (ys ++ q0.drop j).flatMap cwC = cj at H HFL HAL HCJ
        generalize (fun w => CwOk w ys) = KF at H HKF
        refine wp_region_hz (by kernel_rfl) [0, 1, 2, 3, 4, 5, 6, 7, 8, 9, 10, 11] (by kernel_rfl) (by kernel_rfl) (by kernel_rfl) rfl (fun _ => False) (H) ?_
        clear H; intro w2 H hz0
        try clear C
        try simp only [World.size_alloc, List.nil_append, List.cons_append, List.append_assoc] at H hz0 ⊢
        clear hz0
        try clear wr
        have C := H.cells
        try simp only [cellsOf, cellsM, apartOf, apartM, and_true] at C
        have Z := H.zs
        try simp only [ltsOf, ltsM, and_true] at Z
        simp only [List.filterMap_cons, List.filterMap_nil, List.getElem?_toArray, List.getElem?_cons_zero, List.getElem?_cons_succ]
        have hg9 : g < w2.heap.size := Item.lt (H.at 2 rfl) (k := g) rfl
        have k1 : w2.cell? ⟨g, j * 3 + 1, none⟩ = some (.slice za zn zc) := (H.rowCells 2 rfl (j * 3 + 1) (by omega)).1.trans (HCJ.out 1 _ rfl)
        (refine wpH_free rfl rfl rfl (fun _ _ => ?_); go_step; go_step)
        (refine wpH_load rfl rfl rfl (by simp [Stay, OneD, NoD, *]) (by simp [*]) (fun _ _ => ?_); go_step; go_step)
        (refine wpH_free rfl rfl rfl (fun _ _ => ?_); go_step; go_step)
        (refine wpH_free rfl rfl rfl (fun _ _ => ?_); go_step; go_step)
        (refine wpH_load rfl rfl rfl (by simp [Stay, OneD, NoD, *]) (by simp [*]) (fun _ _ => ?_); go_step; go_step)
        (refine wpH_free rfl rfl rfl (fun _ _ => ?_); go_step; go_step)
        (refine wpH_yield rfl rfl (.pointer (some ⟨g, j * 3, none⟩)) (fun w _ => by go_simp) ?_; go_simp)
        (refine wpH_free rfl rfl rfl (fun _ _ => ?_); go_step; go_step)
        (refine wpH_load rfl rfl rfl (by simp [Stay, OneD, NoD, *]) (by simp [*]) (fun _ _ => ?_); go_step; go_step)
        (refine wpH_call rfl rfl (fun wc hc _ _ => ?_); go_step; refine (LCP.out _ (HBJ.out.up hc.hs.done)).mono ?_; rintro _ wd ⟨⟨ra, rn, rc⟩, G, rfl, K⟩; dsimp only; go_step; refine ⟨_, (hc.joinH (fun _ h => h.1) (K) (one_low rfl)).1, (hc.joinH (fun _ h => h.1) (K) (one_low rfl)).2, ?_⟩; clear hc; try clear wc wd)
        (refine wpH_yield rfl rfl (.pointer (some ⟨g, j * 3, none⟩)) (fun w _ => by go_simp) ?_; go_simp)
        (refine wpH_free rfl rfl rfl (fun _ _ => ?_); go_step; go_step)
        refine wpH_nil ?_
        intro w3 hC
        replace H := hC.hs
        clear hC
        try clear C
        try clear Z
        try simp only [List.nil_append, List.cons_append, List.append_assoc, List.set_cons_succ, List.set_cons_zero] at H
        try clear w2
        have C := H.cells
        try simp only [cellsOf, cellsM, apartOf, apartM, and_true] at C
        clear k1 q1 q2 hgl
        obtain ⟨u1, k1, k1f⟩ : ∃ u, w3.cell? ⟨g, j * 3 + 1, none⟩ = some u ∧ w3.frozen? ⟨g, j * 3 + 1, none⟩ = false := by
          have h1 := H.rowCells 2 rfl (j * 3 + 1) (by omega)
          exact ⟨_, h1.1.trans (List.getElem?_eq_getElem (by rw [HFL.out]; omega)), h1.2⟩
        have hgl : g < w3.heap.size := Item.lt (H.at 2 rfl) (k := g) rfl
        go_upto_region 6 with fail
        generalize hwb : World.setCell _ _ _ = w8
        have H9 := HS.eqW hwb (H.rowSet 2 rfl (j * 3 + 1) (.slice ra rn rc))
        clear H C hwb k1 k1f hgl hg9
        simp only [List.set_cons_succ, List.set_cons_zero] at H9
        rw [HAL.out ⟨ra, rn, rc⟩] at H9
        have H7 := HS.merge (L := [_, _, _, _]) H9
        have H6 := HS.weak (L := [_, _, _, _]) H7 (K' := fun w => CwOk w (ys ++ [((⟨ix, bs, po⟩ : Wm), (⟨ra, rn, rc⟩ : Sv))])) (fun w' ⟨a1, a2⟩ => cwOk_snoc (HKF.out w' a1) a2)
        obtain ⟨F6, H6⟩ : ∃ F6, HS NoD w [.blk bX #[.int .i64 s0, .int .i64 s1, .int .i64 s2, .int .i64 s3, .int .i64 s4, .int .i64 s5, .int .i64 kd, .int .i64 dt, .int .i64 ck, .int .i64 fx, .slice (some ⟨g, 0, none⟩) q0.length cW, .slice sF fs.length cF] 34, .blk bR #[.int .i64 0, .int .i64 0, .int .i64 0, .int .i64 0, .int .i64 0, .int .i64 0, .int .i64 0, .int .i64 0, .int .i64 0, .int .i64 0, .slice none 0 0, .slice none 0 0] 34, rowCw (some ⟨g, 0, none⟩) q0.length cW (ys ++ [((⟨ix, bs, po⟩ : Wm), (⟨ra, rn, rc⟩ : Sv))] ++ q0.drop (j + 1)), rowCf sF fs.length cF fs, anyCw F6 (ys ++ [((⟨ix, bs, po⟩ : Wm), (⟨ra, rn, rc⟩ : Sv))])] w8 := ⟨_, H6⟩
        go_wp2_with fail
        go_roundw
        case rel =>
          exact ⟨j + 1, ys ++ [((⟨ix, bs, po⟩ : Wm), (⟨ra, rn, rc⟩ : Sv))], F6, by go_num, by omega, by rw [List.length_append, HYL.out]; rfl, HMM.out ⟨ra, rn, rc⟩, H6⟩
        case measure => simp [intOf]; omega
      · obtain rfl : j = q0.length := by omega
        rw [List.drop_length, List.append_nil] at H
        have HYL := Lib.hid hyl
        clear hyl
        skip
        go_wp2_with fail
        generalize hwb : (((((((((((wr.setCell _ _).setCell _ _).setCell _ _).setCell _ _).setCell _ _).setCell _ _).setCell _ _).setCell _ _).setCell _ _).setCell _ _).setCell _ _).setCell _ _ = w4
        replace H := HS.eqW hwb (H.putAll (i := 1) rfl (vs := [.int .i64 s0, .int .i64 s1, .int .i64 s2, .int .i64 s3, .int .i64 s4, .int .i64 s5, .int .i64 kd, .int .i64 dt, .int .i64 ck, .int .i64 fx, .slice sW q0.length cW, .slice sF fs.length cF]) rfl rfl)
        simp only [List.nil_append, List.cons_append, List.append_assoc, List.set_cons_succ, List.set_cons_zero] at H
        clear hwb
        try clear C
        try clear wr
        have C := H.cells
        try simp only [cellsOf, cellsM, apartOf, apartM, and_true] at C
        refine bodyPost_ret (by simp [results, Tryd.results41, go_sem, C]; try rfl) rfl ?_
        have H9 := HS.less (L' := [rowCw sW q0.length cW ys, rowCf sF fs.length cF fs, anyCw F ys]) H (by repeat (first | exact .slnil | refine .cons_cons _ ?_ | refine .cons _ ?_))
        have H8 := H9.permu (L' := [rowCw sW q0.length cW ys, anyCw F ys, rowCf sF fs.length cF fs]) (.cons _ (List.Perm.swap _ _ _))
        have hmm : ys.map Prod.fst = q0.map Prod.fst := by rw [HMP.out, List.take_of_length_le (Nat.le_refl _)]
        exact ⟨sW, cW, sF, cF, ys, F, hmm, by rw [HYL.out]; rfl, by rw [HYL.out]; exact H8⟩
theorem cecopy_any (M : Mm) (x y : Sv) (hs : SmallM M) (w : World) (h : MeAt w x y M) : Calls Tryd.prog 41 #[meV M x y] w (GivesMe M w) := (cecopyR_any M x y hs w h).mono fun _ _ h => h.me
end Go.Proofs.YtplflpmkomeadaaDoor
