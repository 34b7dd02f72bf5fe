/- ref13.Look: the word at an index. -/
import Derived.Test.YtplflpmkomeadaaDoorCeF
import Derived.Test.YtplflpmkomeadaaDoorK4
namespace Go.Proofs.YtplflpmkomeadaaDoor
set_option linter.unusedSimpArgs false
set_option linter.unusedVariables false
open Go.RowKit
set_option maxRecDepth 100000
attribute [local irreducible] wpX wpF Calls

abbrev rowBy (s : Option Addr) (n c : Nat) (bs : List Int) : Item := .row (.slice s n c) 5 1 n (bs.flatMap bC1)
/-- A call that hands back a word whose bytes are the caller's own. -/
def GivesCwR (m : Wm) (w : World) (e : Ending) (w' : World) : Prop := ∃ (s : Option Addr) (c : Nat), e = .returned (.agg #[.int .i64 m.ix, .slice s m.bs.length c, .bool m.po]) ∧ HS NoD w [rowBy s m.bs.length c m.bs] w'
def GivesCwRE (m : Wm) (er : Int) (w : World) (e : Ending) (w' : World) : Prop := ∃ (s : Option Addr) (c : Nat), e = .returned (.tuple #[.agg #[.int .i64 m.ix, .slice s m.bs.length c, .bool m.po], .int .i64 er]) ∧ HS NoD w [rowBy s m.bs.length c m.bs] w'
theorem made_u8 (n : Nat) : (madeCells #[.int .u8 0] (n * 1)).toList = (List.replicate n 0).flatMap bC1 := by
  rw [Nat.mul_one]
  refine List.ext_getElem (by rw [flat_len bC1_len]; simp [madeCells]) fun i h1 h2 => ?_
  rw [flat_len bC1_len, List.length_replicate] at h2
  have h3 := flat_get bC1_len (List.replicate n 0) i 0 (.int .u8 0) (by rw [List.length_replicate]; omega) (by rw [getElem!_pos _ _ (by rw [List.length_replicate]; omega), List.getElem_replicate]; rfl)
  rw [show i * 1 + 0 = i by omega] at h3
  obtain ⟨h5, h6⟩ := List.getElem?_eq_some_iff.1 h3
  rw [h6]
  simp [madeCells, Nat.mod_one]
theorem look_first {n : Nat} {qs : List (Wm × Sv)} {i : Int} {j : Nat} (hj : j < qs.length) (hlo : ∀ r, r < j → (qs[r]!).1.ix ≠ i) (he : (qs[j]!).1.ix = i) : lookW n (qs.map Prod.fst) i = (qs[j]!).1 := by
  unfold lookW
  have h : (qs.map Prod.fst).find? (fun m => decide (m.ix = i)) = some (qs[j]!).1 := by
    rw [List.find?_eq_some_iff_getElem]
    refine ⟨by simpa using he, j, by rw [List.length_map]; exact hj, by rw [List.getElem_map, getElem!_pos qs j hj], fun r hr => ?_⟩
    have := hlo r hr
    rw [getElem!_pos qs r (by omega)] at this
    rw [List.getElem_map]
    simpa using this
  rw [h]; rfl
theorem look_none9 {n : Nat} {qs : List (Wm × Sv)} {i : Int} (hlo : ∀ r, r < qs.length → (qs[r]!).1.ix ≠ i) : lookW n (qs.map Prod.fst) i = ⟨i, List.replicate n 0, false⟩ := look_no fun m hm => by
  obtain ⟨q, hq, rfl⟩ := List.mem_map.1 hm
  obtain ⟨r, hr, rfl⟩ := List.mem_iff_getElem.1 hq
  have := hlo r hr
  rwa [getElem!_pos qs r hr] at this
set_option maxHeartbeats 8000000 in
theorem look13_any (M : Mm) (x y : Sv) (hs : SmallM M) (hd : 0 ≤ M.dt ∧ M.dt ≤ 1000) (hk : 0 ≤ M.ck ∧ M.ck ≤ 1000) (i : Int) (w : World) (h : MeAt w x y M) : Calls Tryd.prog 74 #[meV M x y, .int .i64 i] w (GivesCwR (lookW (M.dt + M.ck).toNat M.ws i) w) := by
  obtain ⟨s0, s1, s2, s3, s4, s5, kd, dt, ck, fx, ws, fs⟩ := M
  obtain ⟨xa, xn, xc⟩ := x
  obtain ⟨ya, yn, yc⟩ := y
  obtain ⟨⟨q0, rfl, hn, hcap, hl, hb⟩, hn2, hcap2, hl2⟩ := h
  dsimp only at hn hcap hl hn2 hcap2 hl2
  subst hn hn2
  obtain ⟨hq1000, hf1000, hsm0⟩ := hs
  dsimp only at hq1000 hf1000 hsm0
  rw [List.length_map] at hq1000
  have hsm : ∀ j, j < q0.length → (q0[j]!).1.bs.length ≤ 140737488355328 := fun j hj => hsm0 _ (map_mem2 hj)
  have HB := Lib.hid (fun j (hj : j < q0.length) => hb _ (mem_bang2 hj))
  have HSM := Lib.hid hsm
  have HL := Lib.hid hl
  have HCP := Lib.hid hcap
  have HL2 := Lib.hid hl2
  have HCP2 := Lib.hid hcap2
  obtain ⟨N, hN⟩ : ∃ N : Nat, (N : Int) = dt + ck := ⟨(dt + ck).toNat, by dsimp only at hd hk; omega⟩
  have hN2 : (dt + ck).toNat = N := by omega
  have HCH := Lib.hid (fun w => show Calls Tryd.prog 14 #[.agg #[.int .i64 kd, .int .i64 dt, .int .i64 ck, .int .i64 fx]] w (Gives (.int .i64 N) w) from by have := r13chips_any kd dt ck fx hd hk w; rwa [← hN] at this)
  have hN3 : N ≤ 2000 := by dsimp only at hd hk; omega
  show Calls Tryd.prog 74 _ w (GivesCwR (lookW (dt + ck).toNat (q0.map Prod.fst) i) w)
  rw [hN2]
  obtain ⟨m9, hm9⟩ : ∃ m, m = lookW N (q0.map Prod.fst) i := ⟨_, rfl⟩
  rw [← hm9]
  have HM9 := Lib.hid hm9
  have HQ1 := Lib.hid hq1000
  clear hb hsm hsm0 hcap hl hl2 hcap2 hd hk hN hN2 hm9
  show Calls Tryd.prog 74 #[.agg #[.int .i64 s0, .int .i64 s1, .int .i64 s2, .int .i64 s3, .int .i64 s4, .int .i64 s5, .int .i64 kd, .int .i64 dt, .int .i64 ck, .int .i64 fx, .slice xa q0.length xc, .slice ya fs.length yc], .int .i64 i] w _
  obtain ⟨ei, e1, e2, e3, e4⟩ := elemBy.hi
  go_enter Tryd.func74, Tryd.ntmps74
  have H := HS.start NoD w
  go_upto_region 1 with fail
  generalize hwb : (w.alloc _).alloc _ = w1
  replace H := HS.eqW hwb H.alloc.alloc
  try simp only [World.size_alloc, List.nil_append, List.cons_append, List.append_assoc] at H
  clear hwb
  generalize w.heap.size + 1 = b4 at H ⊢
  generalize w.heap.size = b2 at H ⊢
  try clear C
  have C := H.cells
  try simp only [cellsOf, cellsM, apartOf, apartM, and_true] at C
  go_wp2_with fail
  go_loopw [5] (fun jj wr => ∃ (j : Nat), jj = .int .i64 j ∧ j ≤ q0.length ∧ Hid (∀ r, r < j → (q0[r]!).1.ix ≠ i) ∧ HS NoD w [.blk b2 #[.int .i64 s0, .int .i64 s1, .int .i64 s2, .int .i64 s3, .int .i64 s4, .int .i64 s5, .int .i64 kd, .int .i64 dt, .int .i64 ck, .int .i64 fx, .slice xa q0.length xc, .slice ya fs.length yc] 34, .blk b4 #[.int .i64 0, .slice none 0 0, .bool false] 50] wr) (fun jj _ => q0.length - (intOf jj).toNat)
  case atStart => exact ⟨0, rfl, Nat.zero_le _, (show Hid _ from fun r hr => absurd hr (Nat.not_lt_zero _)), H⟩
  case round =>
    clear H C
    obtain ⟨j, rfl, hj, HF, H⟩ := hrel
    skip
    try clear C
    try simp only [World.size_alloc, List.nil_append, List.cons_append, List.append_assoc] at H
    have C := H.cells
    try simp only [cellsOf, cellsM, apartOf, apartM, and_true] at C
    by_cases hlt : j < q0.length
    · have HLT := Lib.hid hlt
      have hji : (j : Int) < q0.length := by omega
      obtain ⟨b, o, rfl, hb, hc⟩ := (H.liesUp HL.out).at hlt
      have HBJ := Lib.hid (HB.out j hlt)
      have HSJ := Lib.hid (HSM.out j hlt)
      have HLF := Lib.hid (show (q0[j]!).1.ix = i → m9 = (q0[j]!).1 from fun he => HM9.out.trans (look_first hlt HF.out he))
      obtain ⟨q, hq⟩ : ∃ q, q = q0[j]! := ⟨_, rfl⟩
      have HQQ := Lib.hid hq
      rw [← hq] at hc HBJ HSJ HLF
      clear hq
      obtain ⟨⟨ix, bs, po⟩, ⟨za, zn, zc⟩⟩ := q
      obtain rfl : zn = bs.length := HBJ.out.len
      have hbs : bs.length ≤ 140737488355328 := HSJ.out
      have c0 : wr.cell? ⟨b, o + j * 3, none⟩ = some (.int .i64 ix) := hc 0 _ rfl
      have c1 : wr.cell? ⟨b, o + j * 3 + 1, none⟩ = some (.slice za bs.length zc) := hc 1 _ rfl
      have c2 : wr.cell? ⟨b, o + j * 3 + 2, none⟩ = some (.bool po) := hc 2 _ rfl
      have n1 : (b = wr.heap.size) = False := eq_false (by omega)
      have n2 : (wr.heap.size = b) = False := eq_false (by omega)
      clear hc
      by_cases hix : ix = i
      · obtain rfl : m9 = ⟨ix, bs, po⟩ := HLF.out hix
        subst hix
        clear HLF HQQ
        go_upto_region 6 with fail
        clear c0 c1 c2 n1 n2 hb
        generalize hwb : wr.alloc _ = w2
        replace H := HS.eqW hwb H.alloc
        try simp only [World.size_alloc, List.nil_append, List.cons_append, List.append_assoc] at H
        clear hwb
        generalize wr.heap.size = b6 at H ⊢
        try clear C
        try clear wr
        have C := H.cells
        try simp only [cellsOf, cellsM, apartOf, apartM, and_true] at C
        have hn1 := H.nilRow 5 1
        clear H C
        have H := hn1
        clear hn1
        try simp only [List.nil_append, List.cons_append] at H
        try clear C
        try simp only [World.size_alloc, List.nil_append, List.cons_append, List.append_assoc] at H
        have C := H.cells
        try simp only [cellsOf, cellsM, apartOf, apartM, and_true] at C
        have HCZ := Lib.hid (show bs.length ≤ zc ∧ (za = none → zc = 0) from HBJ.out.cap)
        go_upto_region 7 with (at_builtin; refine wpList_apX rfl (.const (.slice none 0 0)) (.tmp 28) 48 rfl elemBy H 3 rfl rfl rfl (Lies.srcX bC1_len (by decide) HCZ.out.1 (H.liesUp HBJ.out.lies) HCZ.out.2) (flat_len bC1_len bs) (bC1_one bs) (by unfold maxLen; omega) (by omega) (N := bs.length) (by omega) (fun sz cz w22 HZ hg => ?_); clear H C hg; replace HZ := HZ; simp only [List.nil_append, List.cons_append, List.append_assoc, List.set_cons_succ, List.set_cons_zero] at HZ; have H := HZ; clear HZ; have C := H.cells; simp only [cellsOf, cellsM, apartOf, apartM, and_true] at C)
        skip
        generalize hwb : World.setCell _ _ _ = w23
        replace H := HS.eqW hwb (H.setTo (o := 1) (v := .slice sz bs.length cz) 2 rfl rfl)
        clear hwb C
        simp only [List.set_cons_succ, List.set_cons_zero] at H
        skip
        try clear C
        try simp only [World.size_alloc, List.nil_append, List.cons_append, List.append_assoc] at H
        have C := H.cells
        try simp only [cellsOf, cellsM, apartOf, apartM, and_true] at C
        go_wp2_with fail
        generalize hwb : ((w23.setCell _ _).setCell _ _).setCell _ _ = w3
        replace H := HS.eqW hwb (H.putAll (i := 1) rfl (vs := [.int .i64 ix, .slice sz bs.length cz, .bool po]) rfl rfl)
        simp only [List.nil_append, List.cons_append, List.append_assoc, List.set_cons_succ, List.set_cons_zero] at H
        clear hwb
        try clear C
        try clear w23
        have C := H.cells
        try simp only [cellsOf, cellsM, apartOf, apartM, and_true] at C
        refine bodyPost_ret (by simp [results, Tryd.results74, go_sem, C]; try rfl) rfl ?_
        exact ⟨sz, cz, rfl, HS.less H (by repeat (first | exact .slnil | refine .cons_cons _ ?_ | refine .cons _ ?_))⟩
      · have HNI := Lib.hid (show (q0[j]!).1.ix ≠ i by rw [← HQQ.out]; exact hix)
        have hixb : (ix == i) = false := beq_eq_false_iff_ne.2 hix
        clear HLF HQQ
        skip
        go_wp2_with fail
        go_roundw
        case rel =>
          refine ⟨j + 1, by go_num, HLT.out, (show Hid _ from fun r hr => ?_), H⟩
          by_cases e : r = j
          · subst e; exact HNI.out
          · exact HF.out r (by omega)
        case measure => simp [intOf]; have := HLT.out; omega
    · obtain rfl : j = q0.length := by omega
      obtain rfl : m9 = ⟨i, List.replicate N 0, false⟩ := HM9.out.trans (look_none9 HF.out)
      clear hlt hj
      skip
      go_wp2_with fail
      refine (HCH.out _).mono ?_
      rintro _ w4 ⟨rfl, hb⟩
      replace H := H.below hb
      clear hb
      try clear C
      try simp only [World.size_alloc, List.nil_append, List.cons_append, List.append_assoc] at H
      try clear wr
      have C := H.cells
      try simp only [cellsOf, cellsM, apartOf, apartM, and_true] at C
      dsimp only
      clear HCH
      go_upto_region 9 with (at_make; refine wpList_make_full _ rfl (.tmp 35) (.tmp 35) 48 rfl w4.heap.size 5 ei _ 1 elemBy.ht e1 e2 e3 .i64 .i64 _ _ N rfl rfl rfl rfl (by rw [e4]; omega) (by unfold maxLen; omega) (Nat.le_refl _) (fun wm hm1 hm2 => ?_); replace H := H.getsRow ((Below.refl _ _).grown hm2 (Nat.le_refl _) (fun k h => by cases h)) hm1; clear hm1 hm2; simp only [List.nil_append, List.cons_append] at H; clear C; have C := H.cells; simp only [cellsOf, cellsM, apartOf, apartM, and_true] at C)
      generalize hwb : World.setCell _ _ _ = w9
      replace H := HS.eqW hwb (H.putAll (i := 1) rfl (vs := [.int .i64 i, .slice (some ⟨w4.heap.size, 0, none⟩) N N, .bool false]) rfl rfl)
      clear hwb C
      simp only [List.set_cons_succ, List.set_cons_zero] at H
      rw [show (madeCells (Value.int IntKind.u8 0).cells (N * 1)).toList = (List.replicate N 0).flatMap bC1 from made_u8 N] at H
      skip
      skip
      try clear C
      try simp only [World.size_alloc, List.nil_append, List.cons_append, List.append_assoc] at H
      have C := H.cells
      try simp only [cellsOf, cellsM, apartOf, apartM, and_true] at C
      refine bodyPost_ret (by simp [results, Tryd.results74, go_sem, C]; try rfl) rfl ?_
      skip
      refine ⟨some ⟨w4.heap.size, 0, none⟩, N, by rw [List.length_replicate], ?_⟩
      rw [List.length_replicate]
      exact HS.less H (by repeat (first | exact .slnil | refine .cons_cons _ ?_ | refine .cons _ ?_))
end Go.Proofs.YtplflpmkomeadaaDoor
