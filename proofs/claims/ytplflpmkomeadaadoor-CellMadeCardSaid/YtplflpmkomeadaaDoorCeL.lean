/- core.find, core.Get: the word at an index, by halving. -/
import Derived.Test.YtplflpmkomeadaaDoorCeI
namespace Go.Proofs.YtplflpmkomeadaaDoor
set_option linter.unusedSimpArgs false
set_option linter.unusedVariables false
open Go.RowKit
set_option maxRecDepth 100000
attribute [local irreducible] wpX wpF Calls

theorem isnanc_any (n : Int) (w : World) : Calls Tryd.prog 102 #[.int .i64 n] w (Gives (.bool false) w) := by
  go_enter Tryd.func102, Tryd.ntmps102
  have H := HS.start NoD w
  go_wp2_with fail
  go_ret
  exact ⟨by simp, H.done⟩
def cmpC (a b : Int) : Int := if a < b then -1 else if b < a then 1 else 0
theorem cmpc_any (a b : Int) (w : World) : Calls Tryd.prog 98 #[.int .i64 a, .int .i64 b] w (Gives (.int .i64 (cmpC a b)) w) := by
  go_enter Tryd.func98, Tryd.ntmps98
  have H := HS.start NoD w
  go_wp2_with fail
  refine (isnanc_any _ _).mono ?_
  rintro _ w1 ⟨rfl, hb⟩
  replace H := H.below hb
  clear hb
  try clear C
  try simp only [World.size_alloc, List.nil_append, List.cons_append, List.append_assoc] at H
  have C := H.cells
  try simp only [cellsOf, cellsM, apartOf, apartM, and_true] at C
  dsimp only
  go_wp2_with fail
  refine (isnanc_any _ _).mono ?_
  rintro _ w2 ⟨rfl, hb⟩
  replace H := H.below hb
  clear hb
  try clear C
  try simp only [World.size_alloc, List.nil_append, List.cons_append, List.append_assoc] at H
  try clear w1
  have C := H.cells
  try simp only [cellsOf, cellsM, apartOf, apartM, and_true] at C
  dsimp only
  by_cases h1 : a < b
  · skip
    go_wp2_with fail
    go_ret
    exact ⟨by unfold cmpC; rw [if_pos h1]; rfl, H.done⟩
  · by_cases h2 : b < a
    · skip
      go_wp2_with fail
      go_ret
      exact ⟨by unfold cmpC; rw [if_neg (by omega), if_pos h2]; rfl, H.done⟩
    · skip
      go_wp2_with fail
      go_ret
      exact ⟨by unfold cmpC; rw [if_neg (by omega), if_neg (by omega)]; rfl, H.done⟩

theorem find1_any (x : Wm × Sv) (n : Int) (w : World) : Calls Tryd.prog 97 #[.agg (cwC x).toArray, .int .i64 n] w (Gives (.int .i64 (cmpC x.1.ix n)) w) := by
  obtain ⟨⟨ix, bs, po⟩, ⟨xa, xn, xc⟩⟩ := x
  show Calls Tryd.prog 97 #[.agg #[.int .i64 ix, .slice xa xn xc, .bool po], .int .i64 n] w _
  go_enter Tryd.func97, Tryd.ntmps97
  have H := HS.start NoD w
  go_wp2_with fail
  refine (cmpc_any _ _ _).mono ?_
  rintro _ w1 ⟨rfl, hb⟩
  replace H := H.alloc.below hb
  clear hb
  try clear C
  try simp only [World.size_alloc, List.nil_append, List.cons_append, List.append_assoc] at H
  generalize w.heap.size = bx at H ⊢
  have C := H.cells
  try simp only [cellsOf, cellsM, apartOf, apartM, and_true] at C
  dsimp only
  go_wp2_with fail
  go_ret
  exact ⟨rfl, H.done⟩
/-- Where a part belongs: how many are less. -/
def SearchPostCw (n : Int) (xs : List (Wm × Sv)) (w : World) (e : Ending) (w' : World) : Prop :=
  ∃ i : Nat, i ≤ xs.length ∧ (∀ k, k < i → (xs[k]!).1.ix < n) ∧ (∀ k, i ≤ k → k < xs.length → n ≤ (xs[k]!).1.ix) ∧ e = .returned (.tuple #[.int .i64 i, .bool (decide (i < xs.length ∧ (xs[i]!).1.ix = n))]) ∧ Below w.heap.size w w'
set_option maxHeartbeats 4000000 in
theorem bsearchCw (n : Int) {sa : Option Addr} (c : Nat) {xs : List (Wm × Sv)} (hx : xs.length ≤ 100000) (hs : xs.Pairwise fun x y => x.1.ix < y.1.ix) (w : World) (hl : Lies w w.heap.size sa 3 xs.length (fun j => cwC xs[j]!)) :
    Calls Tryd.prog 96 #[.slice sa xs.length c, .int .i64 n, .func (.func 97) #[] #[]] w (SearchPostCw n xs w) := by
  have HL := Lib.hid hl
  have HS' := Lib.hid hs
  clear hl hs
  go_enter Tryd.func96, Tryd.ntmps96
  have H := HS.start NoD w
  go_wp2_with fail
  go_loopw [9, 10] (fun i j wr => ∃ (a b : Nat), i = .int .i64 a ∧ j = .int .i64 b ∧ a ≤ b ∧ b ≤ xs.length ∧ Hid ((∀ k, k < a → (xs[k]!).1.ix < n) ∧ (∀ k, b ≤ k → k < xs.length → n ≤ (xs[k]!).1.ix)) ∧ HS NoD w [] wr) (fun i j _ => (intOf j - intOf i).toNat)
  case atStart => exact ⟨0, xs.length, rfl, rfl, Nat.zero_le _, Nat.le_refl _, ⟨fun k hk => absurd hk (Nat.not_lt_zero _), fun k h1 h2 => by omega⟩, H⟩
  case round =>
    clear H
    obtain ⟨a, b, rfl, rfl, hab, hb, HF, H⟩ := hrel
    skip
    by_cases hlt : a < b
    · go_upto_region 5 with fail
      obtain ⟨m, hm⟩ : ∃ m : Nat, m = (a + b) / 2 := ⟨_, rfl⟩
      have hmi : ((a : Int) + (b : Int)) / 2 = (m : Int) := by omega
      rw [hmi]
      have hm1 : a ≤ m := by omega
      have hm2 : m < b := by omega
      clear hm hmi
      obtain ⟨bl, o, rfl, hbl, hc⟩ := (H.lies HL.out).at (show m < xs.length by omega)
      have hcall := Lib.hid (fun w => find1_any xs[m]! n w)
      obtain ⟨x, hxj⟩ : ∃ x, x = xs[m]! := ⟨_, rfl⟩
      rw [← hxj] at hc hcall
      have c0 : wr.cell? ⟨bl, o + m * 3, none⟩ = _ := hc 0 _ rfl
      have c1 : wr.cell? ⟨bl, o + m * 3 + 1, none⟩ = _ := hc 1 _ rfl
      have c2 : wr.cell? ⟨bl, o + m * 3 + 2, none⟩ = _ := hc 2 _ rfl
      have hmlen : m < xs.length := by omega
      obtain ⟨v, hv⟩ : ∃ v, v = cmpC x.1.ix n := ⟨_, rfl⟩
      rw [← hv] at hcall
      have HX := Lib.hid hxj
      by_cases hp : x.1.ix < n
      · have : v = -1 := by rw [hv]; unfold cmpC; rw [if_pos hp]
        subst this
        have HP := Lib.hid hp
        clear hc hxj hp hv
        go_wp2_with fail
        refine (hcall.out _).mono ?_
        rintro _ w1 ⟨rfl, hb⟩
        replace H := H.below hb
        clear hb
        try clear C
        try simp only [World.size_alloc, List.nil_append, List.cons_append, List.append_assoc] at H
        try clear wr
        have C := H.cells
        try simp only [cellsOf, cellsM, apartOf, apartM, and_true] at C
        dsimp only
        go_wp2_with fail
        go_roundw
        case rel =>
          refine ⟨m + 1, b, by go_num, rfl, by omega, hb, (show Hid _ from ⟨fun k hk => ?_, HF.out.2⟩), H⟩
          by_cases e : k = m
          · subst e; rw [← HX.out]; exact HP.out
          · have h1 := List.pairwise_iff_getElem.1 HS'.out k m (by omega) hmlen (by omega)
            rw [← getElem!_pos xs k (by omega), ← getElem!_pos xs m hmlen, ← HX.out] at h1
            have := HP.out
            omega
        case measure => simp [intOf]; omega
      · have hv0 : 0 ≤ v := by rw [hv]; unfold cmpC; rw [if_neg hp]; split <;> decide
        have HP := Lib.hid hp
        clear hc hxj hp hv
        skip
        go_wp2_with fail
        refine (hcall.out _).mono ?_
        rintro _ w2 ⟨rfl, hb⟩
        replace H := H.below hb
        clear hb
        try clear C
        try simp only [World.size_alloc, List.nil_append, List.cons_append, List.append_assoc] at H
        try clear wr
        have C := H.cells
        try simp only [cellsOf, cellsM, apartOf, apartM, and_true] at C
        dsimp only
        go_wp2_with fail
        go_roundw
        case rel =>
          refine ⟨a, m, rfl, rfl, by omega, by omega, (show Hid _ from ⟨HF.out.1, fun k hk1 hk2 => ?_⟩), H⟩
          have := HP.out
          by_cases e : k = m
          · subst e; rw [← HX.out]; omega
          · have h1 := List.pairwise_iff_getElem.1 HS'.out m k hmlen hk2 (by omega)
            rw [← getElem!_pos xs k hk2, ← getElem!_pos xs m hmlen, ← HX.out] at h1
            omega
        case measure => simp [intOf]; omega
    · have hab' : a = b := by omega
      subst hab'
      by_cases hal : a < xs.length
      · obtain ⟨bl, o, rfl, hbl, hc⟩ := (H.lies HL.out).at hal
        have hcall := Lib.hid (fun w => find1_any xs[a]! n w)
        have hge := HF.out.2 a (Nat.le_refl _) hal
        obtain ⟨x, hxj⟩ : ∃ x, x = xs[a]! := ⟨_, rfl⟩
        rw [← hxj] at hc hcall hge
        have c0 : wr.cell? ⟨bl, o + a * 3, none⟩ = _ := hc 0 _ rfl
        have c1 : wr.cell? ⟨bl, o + a * 3 + 1, none⟩ = _ := hc 1 _ rfl
        have c2 : wr.cell? ⟨bl, o + a * 3 + 2, none⟩ = _ := hc 2 _ rfl
        obtain ⟨v, hv⟩ : ∃ v, v = cmpC x.1.ix n := ⟨_, rfl⟩
        rw [← hv] at hcall
        have HX := Lib.hid hxj
        have hv0 : v = 0 ↔ x.1.ix = n := by rw [hv]; unfold cmpC; rw [if_neg (by omega)]; split <;> omega
        have HV := Lib.hid hv0
        have HG := Lib.hid hge
        clear hc hxj hv hv0 hge
        skip
        go_wp2_with fail
        refine (hcall.out _).mono ?_
        rintro _ w3 ⟨rfl, hb⟩
        replace H := H.below hb
        clear hb
        try clear C
        try simp only [World.size_alloc, List.nil_append, List.cons_append, List.append_assoc] at H
        try clear wr
        have C := H.cells
        try simp only [cellsOf, cellsM, apartOf, apartM, and_true] at C
        dsimp only
        go_wp2_with fail
        go_ret2
        refine ⟨a, by omega, HF.out.1, HF.out.2, ?_, H.done⟩
        rw [← HX.out]
        have hd : decide (v = 0) = decide (a < xs.length ∧ x.1.ix = n) := decide_eq_decide.2 ⟨fun e => ⟨hal, HV.out.1 e⟩, fun e => HV.out.2 e.2⟩
        rw [← hd]
        rfl
      · skip
        go_wp2_with fail
        go_ret2
        refine ⟨a, by omega, HF.out.1, HF.out.2, ?_, H.done⟩
        rw [decide_eq_false (fun h => hal h.1)]
        rfl

/-- A pointer to a memory. -/
def MeP (w : World) (b : Nat) (m : Mm) (x y : Sv) : Prop := Blk w b #[.int .i64 m.s0, .int .i64 m.s1, .int .i64 m.s2, .int .i64 m.s3, .int .i64 m.s4, .int .i64 m.s5, .int .i64 m.kd, .int .i64 m.dt, .int .i64 m.ck, .int .i64 m.fx, .slice x.sa x.n x.c, .slice y.sa y.n y.c] 34
theorem MeP.up {w w' : World} {b : Nat} {m : Mm} {x y : Sv} (h : MeP w b m x y) (hb : Below w.heap.size w w') : MeP w' b m x y := Blk.below h hb
def FindPost (qs : List (Wm × Sv)) (n : Int) (w : World) (e : Ending) (w' : World) : Prop :=
  ∃ i : Nat, i ≤ qs.length ∧ (∀ k, k < i → (qs[k]!).1.ix < n) ∧ (∀ k, i ≤ k → k < qs.length → n ≤ (qs[k]!).1.ix) ∧ e = .returned (.tuple #[.int .i64 i, .bool (decide (i < qs.length ∧ (qs[i]!).1.ix = n))]) ∧ Below w.heap.size w w'
set_option maxHeartbeats 4000000 in
theorem cfind_any (M : Mm) (b : Nat) (x y : Sv) (qs : List (Wm × Sv)) (hql : qs.length ≤ 1000) (hs : qs.Pairwise fun x y => x.1.ix < y.1.ix) (n : Int) (w : World) (hp : MeP w b M x y) (h : CwLie w x qs) : Calls Tryd.prog 80 #[.pointer (some ⟨b, 0, none⟩), .int .i64 n] w (FindPost qs n w) := by
  obtain ⟨xa, xn, xc⟩ := x
  obtain rfl : xn = qs.length := h.1
  have HF := Lib.hid (fun wx hx => bsearchCw n (sa := xa) xc (xs := qs) (by omega) hs wx hx)
  have HL := Lib.hid h.2.2.1
  clear h hs
  have hlt := Blk.lt hp
  have kp := Blk.cell hp
  obtain ⟨s0, s1, s2, s3, s4, s5, kd, dt, ck, fx, ws, fs⟩ := M
  have k10 : w.cell? ⟨b, 10, none⟩ = some (.slice xa qs.length xc) := (kp 10).trans rfl
  clear kp hp
  go_enter Tryd.func80, Tryd.ntmps80
  have H := HS.start NoD w
  go_wp2_with fail
  refine (HF.out _ (H.liesUp HL.out)).mono ?_
  rintro _ w2 ⟨i, h1, h2, h3, rfl, hb⟩
  replace H := H.below hb
  clear hb HF
  skip
  have C : True := trivial
  dsimp only
  go_wp2_with fail
  go_ret2
  exact ⟨i, h1, h2, h3, by first | rfl | go_simp, H.done⟩
theorem pw_pair {qs : List (Wm × Sv)} (h : (qs.map Prod.fst).Pairwise (fun x y => x.ix < y.ix)) : qs.Pairwise fun x y => x.1.ix < y.1.ix := by
  rw [List.pairwise_map] at h; exact h
set_option maxHeartbeats 8000000 in
theorem cget_any13 (M : Mm) (b : Nat) (x y : Sv) (qs : List (Wm × Sv)) (hm : qs.map Prod.fst = M.ws) (hs : SmallM M) (hso : M.ws.Pairwise (fun x y => x.ix < y.ix)) (hd : 0 ≤ M.dt ∧ M.dt ≤ 1000) (hk : 0 ≤ M.ck ∧ M.ck ≤ 1000) (i : Int) (w : World) (hp : MeP w b M x y) (h : CwLie w x qs) : Calls Tryd.prog 53 #[.pointer (some ⟨b, 0, none⟩), .int .i64 i] w (GivesCwR (lookW (M.dt + M.ck).toNat M.ws i) w) := by
  have hql : qs.length ≤ 1000 := by have := hs.ws; rw [← hm, List.length_map] at this; exact this
  have HFI := Lib.hid (fun wx h1 h2 => cfind_any M b x y qs hql (pw_pair (by rw [hm]; exact hso)) i wx h1 h2)
  have HSO9 := Lib.hid (show ∀ j r, j < r → r < qs.length → (qs[j]!).1.ix < (qs[r]!).1.ix from fun j r hjr hr => by
    have := List.pairwise_iff_getElem.1 (pw_pair (by rw [hm]; exact hso : (qs.map Prod.fst).Pairwise (fun x y => x.ix < y.ix))) j r (by omega) hr hjr
    rwa [← getElem!_pos qs j (by omega), ← getElem!_pos qs r hr] at this)
  have HMP := Lib.hid hp
  have HCW := Lib.hid h
  have HSM := Lib.hid (fun j (hj : j < qs.length) => hs.bs _ (by rw [← hm]; exact map_mem2 hj))
  obtain ⟨N, hN⟩ : ∃ N : Nat, (N : Int) = M.dt + M.ck := ⟨(M.dt + M.ck).toNat, by omega⟩
  have hN2 : (M.dt + M.ck).toNat = N := by omega
  have HCH := Lib.hid (fun w => show Calls Tryd.prog 43 #[.agg #[.int .i64 M.kd, .int .i64 M.dt, .int .i64 M.ck, .int .i64 M.fx]] w (Gives (.int .i64 N) w) from by have := cchips_any M.kd M.dt M.ck M.fx hd hk w; rwa [← hN] at this)
  have hN3 : N ≤ 2000 := by omega
  rw [hN2, ← hm]
  obtain ⟨m9, hm9⟩ : ∃ m, m = lookW N (qs.map Prod.fst) i := ⟨_, rfl⟩
  rw [← hm9]
  have HM9 := Lib.hid hm9
  have hlt := Blk.lt hp
  clear h hp hs hso hd hk hN hN2 hm9 hm
  obtain ⟨xa, xn, xc⟩ := x
  obtain rfl : xn = qs.length := HCW.out.1
  obtain ⟨s0, s1, s2, s3, s4, s5, kd, dt, ck, fx, ws, fs⟩ := M
  obtain ⟨ei, e1, e2, e3, e4⟩ := elemBy.hi
  go_enter Tryd.func53, Tryd.ntmps53
  have H := HS.start NoD w
  go_upto_region 1 with fail
  generalize hwb : w.alloc _ = w1
  replace H := HS.eqW hwb H.alloc
  try simp only [World.size_alloc, List.nil_append, List.cons_append, List.append_assoc] at H
  clear hwb
  generalize w.heap.size = b4 at H ⊢
  try clear C
  have C := H.cells
  try simp only [cellsOf, cellsM, apartOf, apartM, and_true] at C
  go_wp2_with fail
  refine (HFI.out _ (HMP.out.up H.done) (HCW.out.up H.done)).mono ?_
  rintro _ w2 ⟨j, hj, hlo, hhi, rfl, hb2⟩
  replace H := H.below hb2
  clear hb2 HFI
  skip
  try clear C
  try simp only [World.size_alloc, List.nil_append, List.cons_append, List.append_assoc] at H
  have C := H.cells
  try simp only [cellsOf, cellsM, apartOf, apartM, and_true] at C
  dsimp only
  have HLO := Lib.hid hlo
  have HHI := Lib.hid hhi
  clear hlo hhi
  skip
  by_cases hh : j < qs.length ∧ (qs[j]!).1.ix = i
  · rw [decide_eq_true hh]
    obtain ⟨hlt9, hix⟩ := hh
    have hji : (j : Int) < qs.length := by omega
    obtain ⟨bb, o, rfl, hbb, hc⟩ := (H.liesUp HCW.out.2.2.1).at hlt9
    have HBJ := Lib.hid (HCW.out.2.2.2 _ (mem_bang2 hlt9))
    have HSJ := Lib.hid (HSM.out j hlt9)
    have HM := Lib.hid (show m9 = (qs[j]!).1 from HM9.out.trans (look_first hlt9 (fun r hr => by have := HLO.out r hr; omega) hix))
    have kp := Blk.cell (HMP.out.up H.done)
    have k10 : w2.cell? ⟨b, 10, none⟩ = some (.slice (some ⟨bb, o, none⟩) qs.length xc) := (kp 10).trans rfl
    have hbl : b < w2.heap.size := Blk.lt (HMP.out.up H.done)
    clear kp hix
    clear HM9
    generalize qs[j]! = q at hc HBJ HSJ HM
    obtain ⟨⟨ix, bs, po⟩, ⟨za, zn, zc⟩⟩ := q
    obtain rfl : m9 = ⟨ix, bs, po⟩ := HM.out
    obtain rfl : zn = bs.length := HBJ.out.len
    have hbs : bs.length ≤ 140737488355328 := HSJ.out
    have c0 : w2.cell? ⟨bb, o + j * 3, none⟩ = some (.int .i64 ix) := hc 0 _ rfl
    have c1 : w2.cell? ⟨bb, o + j * 3 + 1, none⟩ = some (.slice za bs.length zc) := hc 1 _ rfl
    have c2 : w2.cell? ⟨bb, o + j * 3 + 2, none⟩ = some (.bool po) := hc 2 _ rfl
    have n1 : (bb = w2.heap.size) = False := eq_false (by omega)
    have n2 : (w2.heap.size = bb) = False := eq_false (by omega)
    have LCP := Lib.hid (fun wx hx => cloneU8 (sa := za) zc (xs := bs) hbs (bC1_one bs) wx hx)
    clear hc
    go_upto_region 5 with fail
    clear c0 c1 c2 n1 n2 hbb k10 hbl
    generalize hwb : w2.alloc _ = w2
    replace H := HS.eqW hwb H.alloc
    try simp only [World.size_alloc, List.nil_append, List.cons_append, List.append_assoc] at H
    clear hwb
    generalize w2.heap.size = b7 at H ⊢
    try clear C
    try clear w2
    have C := H.cells
    try simp only [cellsOf, cellsM, apartOf, apartM, and_true] at C
    go_wp2_with fail
    refine (LCP.out _ (H.liesUp HBJ.out.lies)).mono ?_
    rintro _ w3 ⟨sz, cz, rfl, hr, hb3⟩
    replace H := H.getsRow hb3 hr
    clear hr hb3 LCP
    try simp only [List.nil_append, List.cons_append] at H
    skip
    try clear C
    try simp only [World.size_alloc, List.nil_append, List.cons_append, List.append_assoc] at H
    have C := H.cells
    try simp only [cellsOf, cellsM, apartOf, apartM, and_true] at C
    dsimp only
    go_upto_region 6 with fail
    generalize hwb : World.setCell _ _ _ = w4
    replace H := HS.eqW hwb (H.setTo (o := 1) (v := .slice sz bs.length cz) 1 rfl rfl)
    clear hwb C
    simp only [List.set_cons_succ, List.set_cons_zero] at H
    skip
    try clear C
    try simp only [World.size_alloc, List.nil_append, List.cons_append, List.append_assoc] at H
    have C := H.cells
    try simp only [cellsOf, cellsM, apartOf, apartM, and_true] at C
    go_wp2_with fail
    generalize hwb : ((w4.setCell _ _).setCell _ _).setCell _ _ = w3
    replace H := HS.eqW hwb (H.putAll (i := 0) rfl (vs := [.int .i64 ix, .slice sz bs.length cz, .bool po]) rfl rfl)
    simp only [List.nil_append, List.cons_append, List.append_assoc, List.set_cons_succ, List.set_cons_zero] at H
    clear hwb
    try clear C
    try clear w4
    have C := H.cells
    try simp only [cellsOf, cellsM, apartOf, apartM, and_true] at C
    refine bodyPost_ret (by simp [results, Tryd.results53, go_sem, C]; try rfl) rfl ?_
    exact ⟨sz, cz, rfl, HS.less H (by repeat (first | exact .slnil | refine .cons_cons _ ?_ | refine .cons _ ?_))⟩
  · rw [decide_eq_false hh]
    skip
    have HNE := Lib.hid (show ∀ r, r < qs.length → (qs[r]!).1.ix ≠ i from fun r hr => by
      rcases Nat.lt_trichotomy r j with h9 | h9 | h9
      · have := HLO.out r h9; omega
      · subst h9; exact fun e => hh ⟨hr, e⟩
      · by_cases hjl : j < qs.length
        · have h1 := HHI.out j (Nat.le_refl _) hjl
          have h2 : (qs[j]!).1.ix ≠ i := fun e => hh ⟨hjl, e⟩
          have h3 := HSO9.out j r h9 hr
          omega
        · omega)
    obtain rfl : m9 = ⟨i, List.replicate N 0, false⟩ := HM9.out.trans (look_none9 HNE.out)
    have kp := Blk.cell (HMP.out.up H.done)
    have k6 : w2.cell? ⟨b, 6, none⟩ = some (.int .i64 kd) := (kp 6).trans rfl
    have k7 : w2.cell? ⟨b, 7, none⟩ = some (.int .i64 dt) := (kp 7).trans rfl
    have k8 : w2.cell? ⟨b, 8, none⟩ = some (.int .i64 ck) := (kp 8).trans rfl
    have k9 : w2.cell? ⟨b, 9, none⟩ = some (.int .i64 fx) := (kp 9).trans rfl
    have hbl : b < w2.heap.size := Blk.lt (HMP.out.up H.done)
    clear kp hh
    go_wp2_with fail
    refine (HCH.out _).mono ?_
    rintro _ w4 ⟨rfl, hb⟩
    replace H := H.below hb
    clear hb
    try clear C
    try simp only [World.size_alloc, List.nil_append, List.cons_append, List.append_assoc] at H
    try clear w2
    have C := H.cells
    try simp only [cellsOf, cellsM, apartOf, apartM, and_true] at C
    dsimp only
    clear HCH k6 k7 k8 k9
    go_upto_region 4 with (at_make; refine wpList_make_full _ rfl (.tmp 21) (.tmp 21) 48 rfl w4.heap.size 5 ei _ 1 elemBy.ht e1 e2 e3 .i64 .i64 _ _ N rfl rfl rfl rfl (by rw [e4]; omega) (by unfold maxLen; omega) (Nat.le_refl _) (fun wm hm1 hm2 => ?_); replace H := H.getsRow ((Below.refl _ _).grown hm2 (Nat.le_refl _) (fun k h => by cases h)) hm1; clear hm1 hm2; simp only [List.nil_append, List.cons_append] at H; clear C; have C := H.cells; simp only [cellsOf, cellsM, apartOf, apartM, and_true] at C)
    generalize hwb : World.setCell _ _ _ = w9
    replace H := HS.eqW hwb (H.putAll (i := 0) rfl (vs := [.int .i64 i, .slice (some ⟨w4.heap.size, 0, none⟩) N N, .bool false]) rfl rfl)
    clear hwb C
    simp only [List.set_cons_succ, List.set_cons_zero] at H
    rw [show (madeCells (Value.int IntKind.u8 0).cells (N * 1)).toList = (List.replicate N 0).flatMap bC1 from made_u8 N] at H
    skip
    skip
    try clear C
    try simp only [World.size_alloc, List.nil_append, List.cons_append, List.append_assoc] at H
    have C := H.cells
    try simp only [cellsOf, cellsM, apartOf, apartM, and_true] at C
    refine bodyPost_ret (by simp [results, Tryd.results53, go_sem, C]; try rfl) rfl ?_
    skip
    refine ⟨some ⟨w4.heap.size, 0, none⟩, N, by rw [List.length_replicate], ?_⟩
    rw [List.length_replicate]
    exact HS.less H (by repeat (first | exact .slnil | refine .cons_cons _ ?_ | refine .cons _ ?_))
end Go.Proofs.YtplflpmkomeadaaDoor
