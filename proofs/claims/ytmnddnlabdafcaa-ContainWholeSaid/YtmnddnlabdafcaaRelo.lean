/- The statement ContainReloads: its walk. -/
import Derived.Test.YtmnddnlabdafcaaC5
import Derived.Test.YtmnddnlabdafcaaC9
import Derived.Test.YtmnddnlabdafcaaForks
namespace Go.Proofs.Ytmnddnlabdafcaa
set_option linter.unusedSimpArgs false
set_option linter.unusedVariables false
open Go.RowKit
set_option maxRecDepth 100000
attribute [local go_sem] lt_more ne_more ne_more'
attribute [local irreducible] wpX wpF Calls

theorem move_pages {a b : Int} (hab : a ≠ b) (id : Int) : ∀ {pg : List Pg}, (∀ x ∈ pg, x.f ≠ b) → usesOf id (pg.map fun x => if x.f = a then { x with f := b } else x) b = usesOf id pg a ∧ usesOf id (pg.map fun x => if x.f = a then { x with f := b } else x) a = []
  | [], _ => ⟨rfl, rfl⟩
  | x :: pg, h => by
    obtain ⟨h1, h2⟩ := move_pages hab id (pg := pg) fun y hy => h y (by simp [hy])
    have hx := h x (by simp)
    unfold usesOf at h1 h2 ⊢
    rw [List.map_cons, List.filter_cons, List.filter_cons, List.filter_cons]
    by_cases e : x.f = a
    · rw [if_pos e]
      simp only [e, decide_true, if_true, List.map_cons]
      rw [h1, if_neg (by simp; exact fun h => hab h.symm), h2]
      exact ⟨rfl, rfl⟩
    · rw [if_neg e]
      rw [if_neg (by simpa using hx), if_neg (by simpa using e), if_neg (by simpa using e), h1, h2]
      exact ⟨rfl, rfl⟩
theorem users_move {a b : Int} (hab : a ≠ b) : ∀ {ps : List Pr}, usedB ps b = false → usersL (ps.map (moveP a b)) b = usersL ps a ∧ usersL (ps.map (moveP a b)) a = []
  | [], _ => ⟨rfl, rfl⟩
  | p :: ps, h => by
    have h' : (p.pages.any fun x => decide (x.f = b)) = false ∧ usedB ps b = false := by
      unfold usedB at h ⊢
      rw [List.any_cons, Bool.or_eq_false_iff] at h
      exact h
    obtain ⟨h1, h2⟩ := users_move hab h'.2
    have h3 : ∀ x ∈ p.pages, x.f ≠ b := fun x hx e => by
      have := (List.any_eq_false.1 h'.1) x hx
      simp [e] at this
    obtain ⟨h4, h5⟩ := move_pages hab p.id h3
    rw [usersL_eq] at h1 h2 ⊢
    rw [usersL_eq] at h1 ⊢
    rw [usersL_eq, List.map_cons, List.flatMap_cons, List.flatMap_cons, List.flatMap_cons, h1, h2]
    rw [show usesOf (moveP a b p).id (moveP a b p).pages b = usesOf p.id p.pages a from h4, show usesOf (moveP a b p).id (moveP a b p).pages a = [] from h5]
    exact ⟨rfl, rfl⟩
theorem small_move {a b : Int} {ps : List Pr} (h : SmallP ps) : SmallP (ps.map (moveP a b)) := by
  refine ⟨by rw [List.length_map]; exact h.1, fun p hp => ?_⟩
  obtain ⟨q, hq, rfl⟩ := List.mem_map.1 hp
  have := h.2 q hq
  exact ⟨by show (List.map _ _).length ≤ 1000; rw [List.length_map]; exact this.1, this.2⟩
theorem Held.unused {F : List Fr} {ps : List Pr} (h : Held F ps) {t : Nat} (ht : t < F.length) (hs : (F[t]!).st = 0) : usedB ps t = false := by
  cases hu : usedB ps t with
  | false => rfl
  | true =>
    have h1 := (used_iff ps t).1 hu
    rcases h.held t ht (List.length_pos_iff.1 h1) with h2 | h2 <;> rw [hs] at h2 <;> cases h2
theorem Held.reload {F : List Fr} {ps : List Pr} (h : Held F ps) {f t : Nat} (hf : f < F.length) (ht : t < F.length) (hs : (F[f]!).st = 1) (h0 : (F[t]!).st = 0) :
    decP true F ps f t = (0, [⟨2, f, t, 0, 0⟩, ⟨1, f, 0, 0, 0⟩]) ∧ applyP F ps ⟨2, f, t, 0, 0⟩ = (0, (F.set t F[f]!).set f ⟨0, 0⟩, ps.map (moveP f t)) ∧ f ≠ t := by
  have hft : f ≠ t := fun e => by rw [e, h0] at hs; cases hs
  have hfr : freeAtF F t = true := by
    unfold freeAtF
    simp only [Bool.and_eq_true, decide_eq_true_eq]
    exact ⟨⟨by omega, by omega⟩, h0⟩
  have hF2 := h.fr.high
  have e1 : ((F[((f : Nat) : Int).toNat]!).st) = 1 := hs
  refine ⟨?_, ?_, hft⟩
  · unfold decP
    rw [if_neg (by decide), if_neg (by omega), if_neg (fun hh => hh.2.elim (fun h => hft (by omega)) (fun h => by rw [hfr] at h; cases h))]
    dsimp only
    rw [e1, if_neg (by decide), if_neg (by decide), if_neg (by simp), if_neg (by decide), if_pos ⟨rfl, by omega⟩]
  · have e2 : stateE F ps ⟨2, f, t, 0, 0⟩ = 0 := by
      unfold stateE
      dsimp only
      rw [e1, if_neg (by simp)]
    have e3 : replP ps f t = (0, ps.map (moveP f t)) := by
      unfold replP
      rw [if_neg (by omega), if_neg (fun h' => by have := h.unused ht h0; rw [this] at h'; cases h'.2)]
    have e4 : carryP F ps ⟨2, f, t, 0, 0⟩ = (0, (F.set t F[f]!).set f ⟨0, 0⟩, ps.map (moveP f t)) := by
      unfold carryP
      dsimp only
      rw [if_neg (by decide), if_pos (.inl rfl)]
      unfold shiftP
      rw [e3]
      rfl
    unfold applyP
    dsimp only
    rw [if_neg (by decide), if_neg (fun h' => by rcases h' with h' | h' | h'; omega; omega; rw [hfr] at h'; cases h'.2), e2, if_neg (by simp), e4]
    rfl
theorem neqFr (a b : Int) (w : World) : (binOp .neq 66 (.agg #[.int .i64 a, .int .i64 b]) (.agg #[.int .i64 a, .int .i64 b])).run Try.prog w = .ok (.bool false) w := by go_simp
theorem neqUs (a b : Int) (w : World) : (binOp .neq 61 (.agg #[.int .i64 a, .int .i64 b]) (.agg #[.int .i64 a, .int .i64 b])).run Try.prog w = .ok (.bool false) w := by go_simp
set_option maxHeartbeats 16000000 in
theorem reloads_walk (sa : Option Addr) (len cap : Nat) (hl : len ≤ maxLen) (f : Int) (w : World) (hI : Ints w sa len) :
    Calls Try.prog 11 #[.slice sa len cap, .int .i64 f] w (Gives (.bool true) w) := by
  have HI := Lib.hid hI
  clear hI
  have hli := light_any sa len cap hl
  clear hl
  have HAW := Lib.hid awake33_any
  by_cases h400 : len ≤ 400
  · rw [decide_eq_true h400] at hli
    have HLI := Lib.hid hli
    clear hli
    go_enter Try.func11, Try.ntmps11
    have H := HS.start NoD w
    go_wp2_with fail
    refine (gives_of (HLI.out _)).mono ?_
    rintro _ w1 ⟨rfl, hb⟩
    replace H := H.below hb
    clear hb
    try clear C
    try simp only [World.size_alloc, List.nil_append, List.cons_append, List.append_assoc] at H
    have C := H.cells
    try simp only [cellsOf, cellsM, apartOf, apartM, and_true] at C
    dsimp only
    go_wp2_with fail
    refine (roll_at w.heap.size _ _ _ h400 _ H.size (H.ints HI.out)).mono ?_
    rintro _ w2 ⟨bd, rfl, hd, hb, hbb⟩
    replace H := H.getsDice hb hd hbb (Nat.le_refl _)
    clear hb hd hbb
    try clear C
    try simp only [World.size_alloc, List.nil_append, List.cons_append, List.append_assoc] at H
    try clear w1
    have C := H.cells
    try simp only [cellsOf, cellsM, apartOf, apartM, and_true] at C
    dsimp only
    go_wp2_with fail
    refine (mheld_any w.heap.size bd _ (H.at 0 rfl) H.size).mono ?_
    rintro _ w2 ⟨v1, F, u, qs, rfl, hhe, K⟩
    replace H := HS.joinDice H 0 rfl K (fun A hA => by simp only [List.mem_cons, List.mem_nil_iff, or_false] at hA; rcases hA with rfl | rfl <;> rfl)
    clear K
    simp only [List.nil_append, List.cons_append] at H
    have hF1 := hhe.fr.low
    have hF2 := hhe.fr.high
    obtain ⟨sf, cf, rfl⟩ := ownsRow_slice (H.at 1 rfl)
    obtain ⟨g, rfl, hgs, hcap⟩ := ownsRow_ptr (H.at 1 rfl) (by omega)
    clear hgs hcap
    have HHE := Lib.hid hhe
    clear hhe
    skip
    try clear C
    try simp only [World.size_alloc, List.nil_append, List.cons_append, List.append_assoc] at H
    have C := H.cells
    try simp only [cellsOf, cellsM, apartOf, apartM, and_true] at C
    dsimp only
    obtain ⟨md, hmd⟩ : ∃ md, md = modF f F.length := ⟨_, rfl⟩
    have hmc : ∀ w, Calls Try.prog 17 #[.int .i64 f, .int .i64 F.length] w (Gives (.int .i64 md) w) := fun w => by rw [hmd]; exact gives_of (mod_any _ _ _)
    have hmb := modF_in (n := f) (m := F.length) (by omega) (by omega)
    rw [← hmd] at hmb
    clear hmd
    obtain ⟨k, rfl⟩ : ∃ k : Nat, md = k := ⟨md.toNat, by omega⟩
    have hk : k < F.length := by omega
    have HMC := Lib.hid hmc
    clear hmc hmb
    go_wp2_with fail
    refine (HMC.out _).mono ?_
    rintro _ w3 ⟨rfl, hb⟩
    replace H := H.below hb
    clear hb
    try clear C
    try simp only [World.size_alloc, List.nil_append, List.cons_append, List.append_assoc] at H
    try clear w2
    have C := H.cells
    try simp only [cellsOf, cellsM, apartOf, apartM, and_true] at C
    dsimp only
    clear HMC
    go_wp2_with fail
    have HFI := Lib.hid (freeI_or F)
    have hfr := r28free_any (F := F) (by omega) cf w3 (H.rowLies 1 frC_len rfl rfl)
    generalize freeI F = fi at HFI hfr
    refine (hfr).mono ?_
    rintro _ w4 ⟨rfl, hb⟩
    replace H := H.below hb
    clear hb
    try clear C
    try simp only [World.size_alloc, List.nil_append, List.cons_append, List.append_assoc] at H
    try clear w3
    have C := H.cells
    try simp only [cellsOf, cellsM, apartOf, apartM, and_true] at C
    dsimp only
    clear hfr
    obtain ⟨xo, hxo⟩ : ∃ x, x = F[k]! := ⟨_, rfl⟩
    have HXO := Lib.hid hxo
    obtain ⟨s, bl⟩ := xo
    have hs : (F[k]!).st = s := by rw [← hxo]
    have HS1 := Lib.hid hs
    have c0 : w4.cell? ⟨g, k * 2, none⟩ = some (.int .i64 s) := by
      have h1 := H.rowCells 1 rfl (k * 2) (by omega)
      exact h1.1.trans (flat_get frC_len F k 0 (.int .i64 s) hk (by rw [← hxo]; rfl))
    clear hxo hs
    by_cases hs1 : s = 1
    · subst hs1
      by_cases hfi : fi < 0
      · go_upto_region 7 with fail
        clear c0
        go_wp2_with fail
        refine (HAW.out _).mono ?_
        rintro _ w5 ⟨rfl, hb⟩
        replace H := H.below hb
        clear hb
        try clear C
        try simp only [World.size_alloc, List.nil_append, List.cons_append, List.append_assoc] at H
        try clear w4
        have C := H.cells
        try simp only [cellsOf, cellsM, apartOf, apartM, and_true] at C
        dsimp only
        go_wp2_with fail
        go_ret
        exact ⟨rfl, H.done⟩
      obtain ⟨t, rfl⟩ : ∃ t : Nat, fi = t := ⟨fi.toNat, by omega⟩
      have hft : freeAtF F t = true := HFI.out.resolve_left (by omega)
      have hft2 : t < F.length ∧ (F[t]!).st = 0 := by
        unfold freeAtF at hft
        simp only [Bool.and_eq_true, decide_eq_true_eq] at hft
        exact ⟨by omega, hft.2⟩
      obtain ⟨htl, hts⟩ := hft2
      obtain ⟨hdec, happ, hne⟩ := HHE.out.reload hk htl HS1.out hts
      have hum := users_move (a := k) (b := t) (by omega) (HHE.out.unused htl hts)
      have HDE := Lib.hid (fun w hl hp => cdecide_any HHE.out.fr HHE.out.pr.good (k : Int) t (sa := some ⟨g, 0, none⟩) cf (v := u) w hl hp)
      have HAP := Lib.hid (fun w hl hp => capply_any HHE.out.fr HHE.out.pr.good ⟨2, k, t, 0, 0⟩ (sa := some ⟨g, 0, none⟩) cf (v := u) w hl hp)
      rw [hdec] at HDE
      rw [happ, ← HXO.out] at HAP
      have HUM := Lib.hid hum
      clear hft hts hdec happ hum
      go_upto_region 8 with fail
      clear c0
      go_wp2_with fail
      refine (HDE.out _ (H.rowLies 1 frC_len rfl rfl) (H.ownPs 2 rfl)).mono ?_
      rintro _ w6 ⟨sd, cd, rfl, hr, hb⟩
      replace H := (H).getsRow hb hr
      clear hb hr
      try clear C
      try simp only [World.size_alloc, List.nil_append, List.cons_append, List.append_assoc] at H
      try clear w5
      have C := H.cells
      try simp only [cellsOf, cellsM, apartOf, apartM, and_true] at C
      dsimp only
      clear HDE
      obtain ⟨gd, rfl, hgs, hcap⟩ := ownsRow_ptr (H.at 3 rfl) (by simp)
      clear hgs hcap
      have d0 : w6.cell? ⟨gd, 0, none⟩ = some (.int .i64 2) := (H.rowCells 3 rfl 0 (by simp)).1.trans rfl
      have d1 : w6.cell? ⟨gd, 1, none⟩ = some (.int .i64 k) := (H.rowCells 3 rfl 1 (by simp)).1.trans rfl
      have d2 : w6.cell? ⟨gd, 2, none⟩ = some (.int .i64 t) := (H.rowCells 3 rfl 2 (by simp)).1.trans rfl
      have d3 : w6.cell? ⟨gd, 3, none⟩ = some (.int .i64 0) := (H.rowCells 3 rfl 3 (by simp)).1.trans rfl
      have d4 : w6.cell? ⟨gd, 4, none⟩ = some (.int .i64 0) := (H.rowCells 3 rfl 4 (by simp)).1.trans rfl
      have d5 : w6.cell? ⟨gd, 5, none⟩ = some (.int .i64 1) := (H.rowCells 3 rfl 5 (by simp)).1.trans rfl
      go_wp2_with fail
      clear d0 d1 d2 d3 d4 d5
      refine (HAP.out _ (H.rowLies 1 frC_len rfl rfl) (H.ownPs 2 rfl)).mono ?_
      rintro _ w7 ⟨fv, pv, rs, rfl, hrs, K⟩
      have HRS := Lib.hid (show rs.map (·.p) = (qs.map (·.p)).map (moveP k t) from hrs)
      clear hrs HAP
      replace H := H.join K (fun A hA => by simp only [List.mem_cons, List.mem_nil_iff, or_false] at hA; rcases hA with rfl | rfl <;> rfl)
      clear K
      simp only [List.nil_append, List.cons_append, List.length_set] at H
      obtain ⟨sx, cx, rfl⟩ := ownsRow_slice (H.at 4 rfl)
      obtain ⟨ga, rfl, hga, hcap⟩ := ownsRow_ptr (H.at 4 rfl) (by omega)
      clear hcap hga
      skip
      try clear C
      try simp only [World.size_alloc, List.nil_append, List.cons_append, List.append_assoc] at H
      have C := H.cells
      try simp only [cellsOf, cellsM, apartOf, apartM, and_true] at C
      dsimp only
      have HF2 : Hid (((F.set t ⟨1, bl⟩).set k ⟨0, 0⟩)[t]! = ⟨1, bl⟩ ∧ ((F.set t ⟨1, bl⟩).set k ⟨0, 0⟩)[k]! = ⟨0, 0⟩) := by
        refine Lib.hid ⟨?_, ?_⟩
        · rw [getElem!_pos _ t (by rw [List.length_set, List.length_set]; omega), List.getElem_set_ne (by omega), List.getElem_set_self]
        · rw [getElem!_pos _ k (by rw [List.length_set, List.length_set]; omega), List.getElem_set_self]
      have HL2 : Hid (((F.set t ⟨1, bl⟩).set k ⟨0, 0⟩).length = F.length) := Lib.hid (by rw [List.length_set, List.length_set])
      have HU1 := Lib.hid (fun v w h => rusers_any k (v := v) (ps := rs.map (·.p)) (by rw [HRS.out]; exact small_move HHE.out.pr.good.small) w h)
      have HU2 := Lib.hid (fun v w h => rusers_any k (v := v) HHE.out.pr.good.small w h)
      have HU3 := Lib.hid (fun v w h => rusers_any t (v := v) (ps := rs.map (·.p)) (by rw [HRS.out]; exact small_move HHE.out.pr.good.small) w h)
      rw [HRS.out, HUM.out.2] at HU1
      rw [HRS.out, HUM.out.1] at HU3
      have hml := users_short HHE.out.pr.good k
      generalize usersL (qs.map (·.p)) k = us at HU2 HU3 hml
      have hq1 := fun w => neqFr 1 bl w
      have hq2 := fun w => neqFr 0 0 w
      go_upto_region 12 with fail
      refine wp_region_xH (by kernel_rfl) (by kernel_rfl) (by kernel_rfl) (by kernel_rfl) (fun _ => False) (H) ?_
      clear H; intro w7 H hz0 hs0
      try clear C
      try simp only [World.size_alloc, List.nil_append, List.cons_append, List.append_assoc] at H hz0
      clear hz0
      try clear w7
      have C := H.cells
      try simp only [cellsOf, cellsM, apartOf, apartM, and_true] at C
      have Z := H.zs
      try simp only [ltsOf, ltsM, and_true] at Z
      have hz0 := Nat.le_refl w7.heap.size
      have cellB : ∀ (j m : Nat) (u : Value), j < F.length → m < 2 → (frC ((F.set t ⟨1, bl⟩).set k ⟨0, 0⟩)[j]!)[m]? = some u → w7.cell? ⟨ga, j * 2 + m, none⟩ = some u := fun j m u hj hm hu => by
        have h1 := H.rowCells 4 rfl (j * 2 + m) (by omega)
        exact h1.1.trans (flat_get frC_len _ j m u (by rw [HL2.out]; exact hj) hu)
      have a0 : w7.cell? ⟨ga, t * 2, none⟩ = some (.int .i64 1) := cellB t 0 _ htl (by decide) (by rw [HF2.out.1]; rfl)
      have a1 := cellB t 1 (.int .i64 bl) htl (by decide) (by rw [HF2.out.1]; rfl)
      have b0 : w7.cell? ⟨ga, k * 2, none⟩ = some (.int .i64 0) := cellB k 0 _ hk (by decide) (by rw [HF2.out.2]; rfl)
      have b1 := cellB k 1 (.int .i64 0) hk (by decide) (by rw [HF2.out.2]; rfl)
      have f0 : w7.cell? ⟨g, k * 2, none⟩ = some (.int .i64 1) := (H.rowCells 1 rfl (k * 2) (by omega)).1.trans (flat_get frC_len F k 0 (.int .i64 1) hk (by rw [← HXO.out]; rfl))
      have f1 : w7.cell? ⟨g, k * 2 + 1, none⟩ = some (.int .i64 bl) := (H.rowCells 1 rfl (k * 2 + 1) (by omega)).1.trans (flat_get frC_len F k 1 (.int .i64 bl) hk (by rw [← HXO.out]; rfl))
      have hgb : g < w7.heap.size := (ownsRow_ptr (H.at 1 rfl) (by omega)).elim fun g' h => by have e := h.1; injection e with e; injection e with e; rw [e]; exact h.2.1
      have hga : ga < w7.heap.size := (ownsRow_ptr (H.at 4 rfl) (by omega)).elim fun g' h => by have e := h.1; injection e with e; injection e with e; rw [e]; exact h.2.1
      clear cellB
      repeat (first | (refine wpX_skip rfl ?_; go_simp) | (refine wpX_free rfl rfl rfl (fun K hK => ?_); go_step; refine hK _ _ ?_; clear hK K) | (refine wpX_load rfl rfl rfl (by simp [Stay, OneD, NoD, *]) hs0 (by simp [*]) (fun K hK => ?_); go_step; refine hK _ _ ?_; clear hK K))
      (refine wpX_yield rfl rfl ((.bool false)) (fun w hw => by go_simp) ?_; go_simp)
      repeat (first | (refine wpX_skip rfl ?_; go_simp) | (refine wpX_free rfl rfl rfl (fun K hK => ?_); go_step; refine hK _ _ ?_; clear hK K) | (refine wpX_load rfl rfl rfl (by simp [Stay, OneD, NoD, *]) hs0 (by simp [*]) (fun K hK => ?_); go_step; refine hK _ _ ?_; clear hK K))
      (refine wpX_yield rfl rfl ((.bool false)) (fun w hw => by go_simp) ?_; go_simp)
      repeat (first | (refine wpX_skip rfl ?_; go_simp) | (refine wpX_free rfl rfl rfl (fun K hK => ?_); go_step; refine hK _ _ ?_; clear hK K) | (refine wpX_load rfl rfl rfl (by simp [Stay, OneD, NoD, *]) hs0 (by simp [*]) (fun K hK => ?_); go_step; refine hK _ _ ?_; clear hK K))
      clear a0 a1 b0 b1 f0 f1
      refine wpX_eff rfl rfl (fun _ _ => ?_)
      go_step
      refine (HU1.out _ _ (by have := H.ownPs 5 rfl; rw [HRS.out] at this; exact this)).mono ?_
      rintro _ w8 ⟨sa1, ca1, rfl, hr, hb⟩
      replace hs0 := hs0.belowS hz0 hb
      replace hz0 := Nat.le_trans hz0 hb.size
      replace H := H.getsRow hb hr
      clear hb hr
      try simp only [List.nil_append, List.cons_append, List.append_assoc] at H
      try clear C
      have C := H.cells
      try simp only [cellsOf, cellsM, apartOf, apartM, and_true] at C
      try clear w7
      dsimp only
      go_step
      refine ⟨hs0, ?_⟩
      repeat (first | (refine wpX_skip rfl ?_; go_simp) | (refine wpX_free rfl rfl rfl (fun K hK => ?_); go_step; refine hK _ _ ?_; clear hK K) | (refine wpX_load rfl rfl rfl (by simp [Stay, OneD, NoD, *]) hs0 (by simp [*]) (fun K hK => ?_); go_step; refine hK _ _ ?_; clear hK K))
      (refine wpX_nil ?_; go_step)
      clear HU1 hq1 hq2
      replace H := H.less (L' := [.dice w.heap.size bd, .row (.slice (some ⟨g, 0, none⟩) F.length cf) 66 2 F.length (F.flatMap frC), Item.many (PsR u qs), Item.many (PsR pv rs)]) (by repeat (first | exact .slnil | refine .cons_cons _ ?_ | refine .cons _ ?_))
      try clear C
      try clear C
      try simp only [World.size_alloc, List.nil_append, List.cons_append, List.append_assoc] at H
      have C := H.cells
      try simp only [cellsOf, cellsM, apartOf, apartM, and_true] at C
      go_wp2_with fail
      refine (HU2.out _ _ (H.ownPs 2 rfl)).mono ?_
      rintro _ w9 ⟨sa2, ca2, rfl, hr, hb⟩
      replace H := (H).getsRow hb hr
      clear hb hr
      try clear C
      try simp only [World.size_alloc, List.nil_append, List.cons_append, List.append_assoc] at H
      try clear w8
      have C := H.cells
      try simp only [cellsOf, cellsM, apartOf, apartM, and_true] at C
      dsimp only
      go_wp2_with fail
      refine (HU3.out _ _ (by have := H.ownPs 3 rfl; rw [HRS.out] at this; exact this)).mono ?_
      rintro _ w10 ⟨sa3, ca3, rfl, hr, hb⟩
      replace H := (H).getsRow hb hr
      clear hb hr
      try clear C
      try simp only [World.size_alloc, List.nil_append, List.cons_append, List.append_assoc] at H
      try clear w9
      have C := H.cells
      try simp only [cellsOf, cellsM, apartOf, apartM, and_true] at C
      dsimp only
      go_wp2_with fail
      go_loopw [129] (fun i wr => ∃ (j : Nat), i = .int .i64 j ∧ j ≤ us.length ∧ HS NoD w [.dice w.heap.size bd, .row (.slice (some ⟨g, 0, none⟩) F.length cf) 66 2 F.length (F.flatMap frC), Item.many (PsR u qs), Item.many (PsR pv rs), .row (.slice sa2 us.length ca2) 61 2 us.length (us.flatMap uC), .row (.slice sa3 us.length ca3) 61 2 us.length (us.flatMap uC)] wr) (fun i _ => us.length - (intOf i).toNat)
      case atStart => exact ⟨0, rfl, Nat.zero_le _, H⟩
      case round =>
        clear H C
        obtain ⟨j, rfl, hj, H⟩ := hrel
        skip
        try clear C
        try simp only [World.size_alloc, List.nil_append, List.cons_append, List.append_assoc] at H
        have C := H.cells
        try simp only [cellsOf, cellsM, apartOf, apartM, and_true] at C
        by_cases hlt : j < us.length
        · obtain ⟨b, o, e1, hb, hc⟩ := (H.rowLies 4 uC_len rfl rfl).at hlt
          obtain ⟨b', o', e2, hb', hd⟩ := (H.rowLies 5 uC_len rfl rfl).at hlt
          subst e1 e2
          obtain ⟨x, hx⟩ : ∃ x, x = us[j]! := ⟨_, rfl⟩
          rw [← hx] at hc hd
          clear hx
          obtain ⟨x0, x1⟩ := x
          have c0 : wr.cell? ⟨b, o + j * 2, none⟩ = some (.int .i64 x0) := hc 0 _ rfl
          have c1 : wr.cell? ⟨b, o + j * 2 + 1, none⟩ = some (.int .i64 x1) := hc 1 _ rfl
          have e0 : wr.cell? ⟨b', o' + j * 2, none⟩ = some (.int .i64 x0) := hd 0 _ rfl
          have e1 : wr.cell? ⟨b', o' + j * 2 + 1, none⟩ = some (.int .i64 x1) := hd 1 _ rfl
          have hq := fun w => neqUs x0 x1 w
          clear hc hd
          go_upto_region 20 with fail
          go_region
          go_wp2_with fail
          go_roundw
          case rel => exact ⟨j + 1, by go_num, by omega, H.drew⟩
          case measure => simp [intOf]; omega
        · go_wp2_with fail
          refine (HAW.out _).mono ?_
          rintro _ w11 ⟨rfl, hb⟩
          replace H := H.below hb
          clear hb
          try clear C
          try simp only [World.size_alloc, List.nil_append, List.cons_append, List.append_assoc] at H
          try clear wr
          have C := H.cells
          try simp only [cellsOf, cellsM, apartOf, apartM, and_true] at C
          dsimp only
          go_wp2_with fail
          go_ret
          exact ⟨rfl, H.done⟩
    · have hsb : (s == 1) = false := beq_eq_false_iff_ne.2 hs1
      go_upto_region 7 with fail
      clear c0
      go_wp2_with fail
      refine (HAW.out _).mono ?_
      rintro _ w12 ⟨rfl, hb⟩
      replace H := H.below hb
      clear hb
      try clear C
      try simp only [World.size_alloc, List.nil_append, List.cons_append, List.append_assoc] at H
      try clear w11
      have C := H.cells
      try simp only [cellsOf, cellsM, apartOf, apartM, and_true] at C
      dsimp only
      go_wp2_with fail
      go_ret
      exact ⟨rfl, H.done⟩
  · rw [decide_eq_false h400] at hli
    have HLI := Lib.hid hli
    clear hli
    go_enter Try.func11, Try.ntmps11
    have H := HS.start NoD w
    go_wp2_with fail
    refine (gives_of (HLI.out _)).mono ?_
    rintro _ w1 ⟨rfl, hb⟩
    replace H := H.below hb
    clear hb
    try clear C
    try simp only [World.size_alloc, List.nil_append, List.cons_append, List.append_assoc] at H
    have C := H.cells
    try simp only [cellsOf, cellsM, apartOf, apartM, and_true] at C
    dsimp only
    go_wp2_with fail
    refine (HAW.out _).mono ?_
    rintro _ w2 ⟨rfl, hb⟩
    replace H := H.below hb
    clear hb
    try clear C
    try simp only [World.size_alloc, List.nil_append, List.cons_append, List.append_assoc] at H
    try clear w1
    have C := H.cells
    try simp only [cellsOf, cellsM, apartOf, apartM, and_true] at C
    dsimp only
    go_wp2_with fail
    go_ret
    exact ⟨rfl, H.done⟩
end Go.Proofs.Ytmnddnlabdafcaa
