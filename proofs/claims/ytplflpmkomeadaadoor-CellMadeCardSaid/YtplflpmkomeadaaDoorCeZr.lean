/- Chapter 13's random: its memory's rows one's own. -/
import Derived.Test.YtplflpmkomeadaaDoorCeMr
import Derived.Test.YtplflpmkomeadaaDoorCeZ
namespace Go.Proofs.YtplflpmkomeadaaDoor
set_option linter.unusedSimpArgs false
set_option linter.unusedVariables false
open Go.RowKit
set_option maxRecDepth 100000
attribute [local irreducible] wpX wpF Calls

theorem three_low {A B C : Item} (ha : A.low = 0) (hb : B.low = 0) (hc : C.low = 0) : ∀ X ∈ [A, B, C], X.low = 0 := fun X hX => by
  rcases List.mem_cons.1 hX with rfl | hX
  · exact ha
  · exact two_lowJ hb hc X hX
theorem manyLie {w : World} {F : Nat → Prop} {s t : Option Addr} {c d : Nat} {qs : List (Wm × Sv)} {fs : List Fa} (h : (Item.many [rowCw s qs.length c qs, anyCw F qs, rowCf t fs.length d fs]).ok w) : CwLie w ⟨s, qs.length, c⟩ qs ∧ CfAt w ⟨t, fs.length, d⟩ fs := by
  have h1 := (Item.ofMany h).1
  have h2 := (h1 _ List.mem_cons_self).1
  have h3 := (h1 _ (List.mem_cons_of_mem _ List.mem_cons_self)).1
  have h4 := (h1 _ (List.mem_cons_of_mem _ (List.mem_cons_of_mem _ List.mem_cons_self))).1
  exact ⟨cwLie_of h2 rfl h3.1, cfAt_of h4 rfl⟩
/-- A made memory. -/
def RandPostR (B b : Nat) (w : World) (e : Ending) (w' : World) : Prop :=
  ∃ (M : Mm) (s : Option Addr) (c : Nat) (t : Option Addr) (d : Nat) (qs : List (Wm × Sv)) (F : Nat → Prop), GoodM M ∧ BytesW M.ws ∧ szM M ≤ 64 ∧ M.fs.length ≤ 10 ∧ qs.map Prod.fst = M.ws ∧ e = .returned (meV M ⟨s, qs.length, c⟩ ⟨t, M.fs.length, d⟩) ∧ HS (OneD b) w [.dice B b, Item.many [rowCw s qs.length c qs, anyCw F qs, rowCf t M.fs.length d M.fs]] w'
set_option maxHeartbeats 16000000 in
theorem random13R_any (B b : Nat) (w : World) (hd : Dice B w b) (hB : B ≤ w.heap.size) : Calls Tryd.prog 12 #[.pointer (some ⟨b, 0, none⟩)] w (RandPostR B b w) := by
  have HBB := Lib.hid hB
  go_enter Tryd.func12, Tryd.ntmps12
  have H := HS.startDice hd hB
  have C := H.cells
  try simp only [cellsOf, cellsM, apartOf, apartM, and_true] at C
  clear hd
  go_upto_region 1 with fail
  generalize hwb : w.alloc _ = w1
  replace H := HS.eqW hwb H.alloc
  try simp only [World.size_alloc, List.nil_append, List.cons_append, List.append_assoc] at H
  clear hwb
  generalize w.heap.size = b2 at H ⊢
  try clear C
  have C := H.cells
  try simp only [cellsOf, cellsM, apartOf, apartM, and_true] at C
  go_wp2_with fail
  refine (shape_any 6 (by omega) B b _ (H.at 0 rfl)).mono ?_
  rintro _ w2 ⟨s0, s1, s2, s3, s4, s5, rfl, hsv, h6, hd, hg⟩
  replace H := (H).diceAt 0 rfl hg hd
  clear hg hd
  try clear C
  try simp only [World.size_alloc, List.nil_append, List.cons_append, List.append_assoc] at H
  try clear w1
  have C := H.cells
  try simp only [cellsOf, cellsM, apartOf, apartM, and_true] at C
  dsimp only
  go_wp2_with fail
  refine (code13_any B b _ (H.at 0 rfl) (Nat.le_trans HBB.out H.size)).mono ?_
  rintro _ w61 ⟨kd, dt, ck, fx, rfl, hco, hd, hg⟩
  replace H := H.diceAt 0 rfl hg hd
  clear hg hd
  skip
  try clear C
  try simp only [World.size_alloc, List.nil_append, List.cons_append, List.append_assoc] at H
  have C := H.cells
  try simp only [cellsOf, cellsM, apartOf, apartM, and_true] at C
  have hgb : goodB (⟨s0, s1, s2, s3, s4, s5, kd, dt, ck, fx, [], []⟩ : Mm) = true := by
    rw [goodB_nil rfl rfl, decide_eq_true (show svM (⟨s0, s1, s2, s3, s4, s5, kd, dt, ck, fx, [], []⟩ : Mm) from hsv), show coM (⟨s0, s1, s2, s3, s4, s5, kd, dt, ck, fx, [], []⟩ : Mm) = true from hco]; rfl
  have HNW := Lib.hid (fun wx => (show Calls Tryd.prog 33 #[.agg #[.int .i64 s0, .int .i64 s1, .int .i64 s2, .int .i64 s3, .int .i64 s4, .int .i64 s5], .agg #[.int .i64 kd, .int .i64 dt, .int .i64 ck, .int .i64 fx]] wx (Gives (.tuple #[.agg #[.int .i64 s0, .int .i64 s1, .int .i64 s2, .int .i64 s3, .int .i64 s4, .int .i64 s5, .int .i64 kd, .int .i64 dt, .int .i64 ck, .int .i64 fx, .slice none 0 0, .slice none 0 0], .int .i64 0]) wx) from by
    have h9 := r13new_any (⟨s0, s1, s2, s3, s4, s5, kd, dt, ck, fx, [], []⟩ : Mm) rfl rfl wx
    unfold newF at h9
    rw [hgb] at h9
    exact h9))
  have hrg := codeB_rng hco
  obtain ⟨N, hN⟩ : ∃ N : Nat, (N : Int) = dt + ck := ⟨(dt + ck).toNat, by omega⟩
  have HCH := Lib.hid (fun w => show Calls Tryd.prog 14 #[.agg #[.int .i64 kd, .int .i64 dt, .int .i64 ck, .int .i64 fx]] w (Gives (.int .i64 N) w) from by have := r13chips_any kd dt ck fx (by omega) (by omega) w; rwa [← hN] at this)
  have HN4 := Lib.hid (show N ≤ 40 by omega)
  have HNN := Lib.hid (show (dt + ck).toNat = N by omega)
  have HN1 := Lib.hid (show 1 ≤ N by omega)
  have HND := Lib.hid hN
  obtain ⟨sz9, hZ⟩ : ∃ sz9 : Nat, sz9 = sizeN s0 s1 s2 s3 s4 s5 := ⟨_, rfl⟩
  have HZ4 := Lib.hid (show sz9 ≤ 64 by rw [hZ]; exact size_le6 hsv h6)
  have HZZ := Lib.hid hZ
  have HSZ := Lib.hid (fun w => show Calls Tryd.prog 17 #[.agg #[.int .i64 s0, .int .i64 s1, .int .i64 s2, .int .i64 s3, .int .i64 s4, .int .i64 s5]] w (Gives (.int .i64 sz9) w) from by rw [hZ]; exact rsize_all s0 s1 s2 s3 s4 s5 w)
  have HSV := Lib.hid hsv
  have HGB := Lib.hid (goodB_iff.1 hgb)
  clear hgb hrg hN hZ hsv hco h6
  go_wp2_with fail
  refine (HNW.out _).mono ?_
  rintro _ w3 ⟨rfl, hb⟩
  replace H := H.below hb
  clear hb
  try clear C
  try simp only [World.size_alloc, List.nil_append, List.cons_append, List.append_assoc] at H
  try clear w61
  have C := H.cells
  try simp only [cellsOf, cellsM, apartOf, apartM, and_true] at C
  dsimp only
  clear HNW
  go_upto_region 2 with fail
  generalize hwb : w3.alloc _ = w4
  replace H := HS.eqW hwb H.alloc
  try simp only [World.size_alloc, List.nil_append, List.cons_append, List.append_assoc] at H
  clear hwb
  generalize w3.heap.size = b3 at H ⊢
  try clear C
  try clear w3
  have C := H.cells
  try simp only [cellsOf, cellsM, apartOf, apartM, and_true] at C
  go_wp2_with fail
  refine (HCH.out _).mono ?_
  rintro _ w5 ⟨rfl, hb⟩
  replace H := H.below hb
  clear hb
  try clear C
  try simp only [World.size_alloc, List.nil_append, List.cons_append, List.append_assoc] at H
  try clear w4
  have C := H.cells
  try simp only [cellsOf, cellsM, apartOf, apartM, and_true] at C
  dsimp only
  go_wp2_with fail
  refine (HSZ.out _).mono ?_
  rintro _ w6 ⟨rfl, hb⟩
  replace H := H.below hb
  clear hb
  try clear C
  try simp only [World.size_alloc, List.nil_append, List.cons_append, List.append_assoc] at H
  try clear w5
  have C := H.cells
  try simp only [cellsOf, cellsM, apartOf, apartM, and_true] at C
  dsimp only
  clear HCH HSZ
  go_wp2_with fail
  refine (next_any 8 (by omega) B b _ (H.at 0 rfl)).mono ?_
  rintro _ w7 ⟨k8, rfl, hv8, hd, hg⟩
  replace H := (H).diceAt 0 rfl hg hd
  clear hg hd
  try clear C
  try simp only [World.size_alloc, List.nil_append, List.cons_append, List.append_assoc] at H
  try clear w6
  have C := H.cells
  try simp only [cellsOf, cellsM, apartOf, apartM, and_true] at C
  dsimp only
  obtain ⟨n8, rfl⟩ : ∃ n : Nat, k8 = n := ⟨k8.toNat, by have := hv8.1; omega⟩
  have hn8 : n8 ≤ 10 := by have := hv8.lt (by omega); omega
  have hnn := HS.toMany (L := [_, _, _]) (R := [rowCw none 0 0 [], anyCw (fun _ => False) [], rowCf none 0 0 []]) (HS.nilRow (L := [_, _, _, _, _]) (HS.weak (L := [_, _, _, _]) (HS.anyNil (H.nilRow 50 3)) (K' := fun w => CwOk w []) (fun w' _ q hq => absurd hq List.not_mem_nil)) 38 11) (three_low rfl rfl rfl)
  clear H C hv8
  have H := hnn
  clear hnn
  try simp only [List.nil_append, List.cons_append] at H
  try clear C
  try simp only [World.size_alloc, List.nil_append, List.cons_append, List.append_assoc] at H
  have C := H.cells
  try simp only [cellsOf, cellsM, apartOf, apartM, and_true] at C
  go_wp2_with fail
  go_loopw [7] (fun kv wr => ∃ (k : Nat) (vs : List Wm) (fs : List Fa) (pa : Option Addr) (pc : Nat) (ra : Option Addr) (rc : Nat) (qs : List (Wm × Sv)) (F : Nat → Prop), kv = .int .i64 k ∧ k ≤ 10 ∧ Hid (GoodM (⟨s0, s1, s2, s3, s4, s5, kd, dt, ck, fx, vs, fs⟩ : Mm) ∧ BytesW vs ∧ qs.map Prod.fst = vs ∧ fs.length = 0) ∧ HS (OneD b) w [.dice B b, .blk b2 #[.int .i64 0, .int .i64 0, .int .i64 0, .int .i64 0, .int .i64 0, .int .i64 0, .int .i64 0, .int .i64 0, .int .i64 0, .int .i64 0, .slice none 0 0, .slice none 0 0] 34, .blk b3 #[.int .i64 s0, .int .i64 s1, .int .i64 s2, .int .i64 s3, .int .i64 s4, .int .i64 s5, .int .i64 kd, .int .i64 dt, .int .i64 ck, .int .i64 fx, .slice pa qs.length pc, .slice ra fs.length rc] 34, Item.many [rowCw pa qs.length pc qs, anyCw F qs, rowCf ra fs.length rc fs]] wr) (fun kv _ => (intOf kv).toNat)
  case atStart => exact ⟨n8, [], [], none, 0, none, 0, [], fun _ => False, rfl, hn8, (show Hid _ from ⟨HGB.out, fun m hm => absurd hm List.not_mem_nil, rfl, rfl⟩), H⟩
  case round =>
    clear H C
    obtain ⟨k, vs, fs, pa, pc, ra, rc, qs, F, rfl, hk, HG, H⟩ := hrel
    skip
    try clear C
    try simp only [World.size_alloc, List.nil_append, List.cons_append, List.append_assoc] at H
    have C := H.cells
    try simp only [cellsOf, cellsM, apartOf, apartM, and_true] at C
    by_cases hk0 : 0 < k
    · have hki : (0 : Int) < k := by omega
      have hkw : IntKind.i64.wrap ((k : Int) - 1) = ((k - 1 : Nat) : Int) := by rw [IntWalk.i64_in _ (by omega)]; omega
      have HK := Lib.hid hk
      have HSM := Lib.hid (HG.out.1.small (Nat.le_trans (show szM (⟨s0, s1, s2, s3, s4, s5, kd, dt, ck, fx, vs, fs⟩ : Mm) ≤ 64 by show sizeN s0 s1 s2 s3 s4 s5 ≤ 64; rw [← HZZ.out]; exact HZ4.out) (by decide)))
      have HST := Lib.hid (fun (m : Wm) (z : Sv) (hz : m.bs.length ≤ 140737488355328) wx hx hb => (show Calls Tryd.prog 38 #[.agg #[.int .i64 s0, .int .i64 s1, .int .i64 s2, .int .i64 s3, .int .i64 s4, .int .i64 s5, .int .i64 kd, .int .i64 dt, .int .i64 ck, .int .i64 fx, .slice pa qs.length pc, .slice ra fs.length rc], cwV m z] wx _ from r13storeR_any (⟨s0, s1, s2, s3, s4, s5, kd, dt, ck, fx, vs, fs⟩ : Mm) ⟨pa, qs.length, pc⟩ ⟨ra, fs.length, rc⟩ HSM.out m z hz wx hx hb))
      go_upto_region 7 with fail
      go_region_law (first
        | (go_simp; go_at_call 27
           refine (next_any (sz9 : Int) (by have := HZ4.out; omega) B b _ (H.drew.at 0 rfl)).mono ?_
           rintro _ wa ⟨v5, rfl, hv5, hd, hg⟩
           have H1 := H.drew.diceAt 0 rfl hg hd
           have C1 := H1.cells
           simp only [cellsOf, apartOf, and_true, List.cons_append, List.nil_append] at C1
           clear hg hd hv5)
        | (go_simp; go_at_call 28
           refine (mbytesB_any N (by have := HN4.out; omega) B b _ (H1.at 0 rfl) (Nat.le_trans HBB.out H1.size)).mono ?_
           rintro _ wb ⟨sB, cB, bs, rfl, hbl, hbr, K⟩
           have H2 := H1.joinDice 0 rfl K (one_low rfl)
           have HBL := Lib.hid hbl
           have HBR := Lib.hid hbr
           have C2 := H2.cells
           simp only [cellsOf, apartOf, and_true, List.cons_append, List.nil_append] at C2
           clear K hbl hbr)
        | (go_simp; go_at_call 29
           refine (one_any 6 (by omega) (by omega) B b _ (H2.at 0 rfl)).mono ?_
           rintro _ wc ⟨v6', rfl, hd, hg⟩
           have H3 := H2.diceAt 0 rfl hg hd
           have C3 := H3.cells
           simp only [cellsOf, apartOf, and_true, List.cons_append, List.nil_append] at C3
           clear hg hd)
        | (go_simp; go_at_call 38
           obtain ⟨vs2, hvs, hg2, hb2⟩ := storeF_good (M := (⟨s0, s1, s2, s3, s4, s5, kd, dt, ck, fx, vs, fs⟩ : Mm)) HG.out.1 HG.out.2.1 (m := ⟨v5, bs, v6'⟩) HBR.out
           have hst := HST.out ⟨v5, bs, v6'⟩ ⟨sB, N, cB⟩ (by show bs.length ≤ 140737488355328; have := HBL.out; have := HN4.out; omega) _ (meAt_of (m := (⟨s0, s1, s2, s3, s4, s5, kd, dt, ck, fx, vs, fs⟩ : Mm)) HG.out.2.2.1 (manyLie (H3.at 3 rfl))) (bytes_row HBL.out.symm (H3.at 4 rfl))
           rw [hvs] at hst
           refine hst.mono ?_
           rintro _ wd ⟨p2, c2, r2, d2, q2, F2, hqm, rfl, K⟩
           have H4 := (H3.join K (three_low rfl rfl rfl)).toMany (L := [_, _, _, _, _]) (three_low rfl rfl rfl)
           have HQM := Lib.hid (show GoodM (⟨s0, s1, s2, s3, s4, s5, kd, dt, ck, fx, vs2, fs⟩ : Mm) ∧ BytesW vs2 ∧ q2.map Prod.fst = vs2 ∧ fs.length = 0 from ⟨hg2, hb2, hqm, HG.out.2.2.2⟩)
           clear K hqm hst hvs hg2 hb2
           generalize (storeF (⟨s0, s1, s2, s3, s4, s5, kd, dt, ck, fx, vs, fs⟩ : Mm) ⟨v5, bs, v6'⟩).2 = er
           have C4 := H4.cells
           simp only [cellsOf, apartOf, and_true, List.cons_append, List.nil_append] at C4
           try dsimp only [meV, setWs]))
      all_goals
        replace H := H4
        clear H4 H3 H2 H1 C1 C2 C3 C4 C
        skip
        generalize hwb : (((((((((((wd.setCell _ _).setCell _ _).setCell _ _).setCell _ _).setCell _ _).setCell _ _).setCell _ _).setCell _ _).setCell _ _).setCell _ _).setCell _ _).setCell _ _ = w8
        replace H := HS.eqW hwb (H.putAll (i := 2) rfl (vs := [.int .i64 s0, .int .i64 s1, .int .i64 s2, .int .i64 s3, .int .i64 s4, .int .i64 s5, .int .i64 kd, .int .i64 dt, .int .i64 ck, .int .i64 fx, .slice p2 q2.length c2, .slice r2 fs.length d2]) rfl rfl)
        simp only [List.nil_append, List.cons_append, List.append_assoc, List.set_cons_succ, List.set_cons_zero] at H
        clear hwb
        try clear C
        try clear wd
        have C := H.cells
        try simp only [cellsOf, cellsM, apartOf, apartM, and_true] at C
        have H9 := HS.less (L' := [.dice B b, .blk b2 #[.int .i64 0, .int .i64 0, .int .i64 0, .int .i64 0, .int .i64 0, .int .i64 0, .int .i64 0, .int .i64 0, .int .i64 0, .int .i64 0, .slice none 0 0, .slice none 0 0] 34, .blk b3 #[.int .i64 s0, .int .i64 s1, .int .i64 s2, .int .i64 s3, .int .i64 s4, .int .i64 s5, .int .i64 kd, .int .i64 dt, .int .i64 ck, .int .i64 fx, .slice p2 q2.length c2, .slice r2 fs.length d2] 34, Item.many [rowCw p2 q2.length c2 q2, anyCw F2 q2, rowCf r2 fs.length d2 fs]]) H (by repeat (first | exact .slnil | refine .cons_cons _ ?_ | refine .cons _ ?_))
        clear H
        have H := H9
        clear H9
        try clear C
        try simp only [World.size_alloc, List.nil_append, List.cons_append, List.append_assoc] at H
        have C := H.cells
        try simp only [cellsOf, cellsM, apartOf, apartM, and_true] at C
        go_wp2_with fail
        go_roundw
        case rel => exact ⟨k - 1, vs2, fs, p2, c2, r2, d2, q2, F2, by go_num, by have := HK.out; omega, HQM, H⟩
        case measure => simp [intOf]; omega
    · obtain rfl : k = 0 := by omega
      try simp only [show ((0 : Nat) : Int) = 0 from rfl]
      skip
      go_wp2_with fail
      refine (next_any 5 (by omega) B b _ (H.at 0 rfl)).mono ?_
      rintro _ w9 ⟨k5, rfl, hv5, hd, hg⟩
      replace H := (H).diceAt 0 rfl hg hd
      clear hg hd
      try clear C
      try simp only [World.size_alloc, List.nil_append, List.cons_append, List.append_assoc] at H
      try clear wr
      have C := H.cells
      try simp only [cellsOf, cellsM, apartOf, apartM, and_true] at C
      dsimp only
      obtain ⟨n5, rfl⟩ : ∃ n : Nat, k5 = n := ⟨k5.toNat, by have := hv5.1; omega⟩
      have hn5 : n5 ≤ 10 := by have := hv5.lt (by omega); omega
      clear hv5
      go_wp2_with fail
      go_loopw [8] (fun kv wr => ∃ (k : Nat) (vs : List Wm) (fs : List Fa) (pa : Option Addr) (pc : Nat) (ra : Option Addr) (rc : Nat) (qs : List (Wm × Sv)) (F : Nat → Prop), kv = .int .i64 k ∧ k ≤ 10 ∧ Hid (GoodM (⟨s0, s1, s2, s3, s4, s5, kd, dt, ck, fx, vs, fs⟩ : Mm) ∧ BytesW vs ∧ qs.map Prod.fst = vs ∧ fs.length + k ≤ 10) ∧ HS (OneD b) w [.dice B b, .blk b2 #[.int .i64 0, .int .i64 0, .int .i64 0, .int .i64 0, .int .i64 0, .int .i64 0, .int .i64 0, .int .i64 0, .int .i64 0, .int .i64 0, .slice none 0 0, .slice none 0 0] 34, .blk b3 #[.int .i64 s0, .int .i64 s1, .int .i64 s2, .int .i64 s3, .int .i64 s4, .int .i64 s5, .int .i64 kd, .int .i64 dt, .int .i64 ck, .int .i64 fx, .slice pa qs.length pc, .slice ra fs.length rc] 34, Item.many [rowCw pa qs.length pc qs, anyCw F qs, rowCf ra fs.length rc fs]] wr) (fun kv _ => (intOf kv).toNat)
      case atStart => exact ⟨n5, vs, fs, pa, pc, ra, rc, qs, F, rfl, hn5, (show Hid _ from ⟨HG.out.1, HG.out.2.1, HG.out.2.2.1, by have := HG.out.2.2.2; omega⟩), H⟩
      case round =>
        clear H C
        obtain ⟨k, vs, fs, pa, pc, ra, rc, qs, F, rfl, hk, HG, H⟩ := hrel
        skip
        try clear C
        try simp only [World.size_alloc, List.nil_append, List.cons_append, List.append_assoc] at H
        have C := H.cells
        try simp only [cellsOf, cellsM, apartOf, apartM, and_true] at C
        by_cases hk0 : 0 < k
        · have hki : (0 : Int) < k := kpos hk0
          have hkw : IntKind.i64.wrap ((k : Int) - 1) = ((k - 1 : Nat) : Int) := kwrap hk hk0
          have HK := Lib.hid hk
          have HSM := Lib.hid (HG.out.1.small (Nat.le_trans (show szM (⟨s0, s1, s2, s3, s4, s5, kd, dt, ck, fx, vs, fs⟩ : Mm) ≤ 64 by show sizeN s0 s1 s2 s3 s4 s5 ≤ 64; rw [← HZZ.out]; exact HZ4.out) (by decide)))
          have HIJ := Lib.hid (fun (f : Fa) wx hx => (show Calls Tryd.prog 39 #[.agg #[.int .i64 s0, .int .i64 s1, .int .i64 s2, .int .i64 s3, .int .i64 s4, .int .i64 s5, .int .i64 kd, .int .i64 dt, .int .i64 ck, .int .i64 fx, .slice pa qs.length pc, .slice ra fs.length rc], cfV f] wx _ from r13injectR_any (⟨s0, s1, s2, s3, s4, s5, kd, dt, ck, fx, vs, fs⟩ : Mm) ⟨pa, qs.length, pc⟩ ⟨ra, fs.length, rc⟩ HSM.out (Nat.le_trans (show szM (⟨s0, s1, s2, s3, s4, s5, kd, dt, ck, fx, vs, fs⟩ : Mm) ≤ 64 by show sizeN s0 s1 s2 s3 s4 s5 ≤ 64; rw [← HZZ.out]; exact HZ4.out) (by decide)) f wx hx))
          go_upto_region 11 with fail
          go_region_law (first
            | (go_simp; go_at_call 29
               refine (one_any 2 (by omega) (by omega) B b _ (H.drew.at 0 rfl)).mono ?_
               rintro _ wa ⟨hh, rfl, hd, hg⟩
               have H1 := H.drew.diceAt 0 rfl hg hd
               have C1 := H1.cells
               simp only [cellsOf, apartOf, and_true, List.cons_append, List.nil_append] at C1
               clear hg hd)
            | (go_simp; go_at_call 13
               refine (faultv_any HSV.out (N : Int) (by have := HN1.out; omega) (by have := HN4.out; omega) hh B b _ (H1.at 0 rfl) (Nat.le_trans HBB.out H1.size)).mono ?_
               rintro _ wb ⟨f9, rfl, hfh, hfv, hd, hg⟩
               have H2 := H1.diceAt 0 rfl hg hd
               have C2 := H2.cells
               simp only [cellsOf, apartOf, and_true, List.cons_append, List.nil_append] at C2
               clear hg hd hfh hfv)
            | (go_simp; go_at_call 39
               obtain ⟨vs2, fs2, hvs, hg2, hb2⟩ := injF_good (M := (⟨s0, s1, s2, s3, s4, s5, kd, dt, ck, fx, vs, fs⟩ : Mm)) HG.out.1 HG.out.2.1 f9
               have hfl2 := fs_step (injF_fsl (⟨s0, s1, s2, s3, s4, s5, kd, dt, ck, fx, vs, fs⟩ : Mm) f9) hvs HG.out.2.2.2 hk0
               have hst := HIJ.out f9 _ (meAt_of (m := (⟨s0, s1, s2, s3, s4, s5, kd, dt, ck, fx, vs, fs⟩ : Mm)) HG.out.2.2.1 (manyLie (H2.at 3 rfl)))
               rw [hvs] at hst
               refine hst.mono ?_
               rintro _ wd ⟨p2, c2, r2, d2, q2, F2, hqm, rfl, K⟩
               have H3 := (H2.join K (three_low rfl rfl rfl)).toMany (L := [_, _, _, _]) (three_low rfl rfl rfl)
               have HQM := Lib.hid (show GoodM (⟨s0, s1, s2, s3, s4, s5, kd, dt, ck, fx, vs2, fs2⟩ : Mm) ∧ BytesW vs2 ∧ q2.map Prod.fst = vs2 ∧ fs2.length + (k - 1) ≤ 10 from ⟨hg2, hb2, hqm, hfl2⟩)
               clear K hqm hst hvs hg2 hb2 hfl2
               generalize (injF (⟨s0, s1, s2, s3, s4, s5, kd, dt, ck, fx, vs, fs⟩ : Mm) f9).2 = er
               have C3 := H3.cells
               simp only [cellsOf, apartOf, and_true, List.cons_append, List.nil_append] at C3
               try dsimp only [meV, setWs, setFs]))
          all_goals
            replace H := H3
            clear H3 H2 H1 C1 C2 C3 C
            skip
            generalize hwb : (((((((((((wd.setCell _ _).setCell _ _).setCell _ _).setCell _ _).setCell _ _).setCell _ _).setCell _ _).setCell _ _).setCell _ _).setCell _ _).setCell _ _).setCell _ _ = w10
            replace H := HS.eqW hwb (H.putAll (i := 2) rfl (vs := [.int .i64 s0, .int .i64 s1, .int .i64 s2, .int .i64 s3, .int .i64 s4, .int .i64 s5, .int .i64 kd, .int .i64 dt, .int .i64 ck, .int .i64 fx, .slice p2 q2.length c2, .slice r2 fs2.length d2]) rfl rfl)
            simp only [List.nil_append, List.cons_append, List.append_assoc, List.set_cons_succ, List.set_cons_zero] at H
            clear hwb
            try clear C
            try clear wd
            have C := H.cells
            try simp only [cellsOf, cellsM, apartOf, apartM, and_true] at C
            have H9 := HS.less (L' := [.dice B b, .blk b2 #[.int .i64 0, .int .i64 0, .int .i64 0, .int .i64 0, .int .i64 0, .int .i64 0, .int .i64 0, .int .i64 0, .int .i64 0, .int .i64 0, .slice none 0 0, .slice none 0 0] 34, .blk b3 #[.int .i64 s0, .int .i64 s1, .int .i64 s2, .int .i64 s3, .int .i64 s4, .int .i64 s5, .int .i64 kd, .int .i64 dt, .int .i64 ck, .int .i64 fx, .slice p2 q2.length c2, .slice r2 fs2.length d2] 34, Item.many [rowCw p2 q2.length c2 q2, anyCw F2 q2, rowCf r2 fs2.length d2 fs2]]) H (by repeat (first | exact .slnil | refine .cons_cons _ ?_ | refine .cons _ ?_))
            clear H
            have H := H9
            clear H9
            try clear C
            try simp only [World.size_alloc, List.nil_append, List.cons_append, List.append_assoc] at H
            have C := H.cells
            try simp only [cellsOf, cellsM, apartOf, apartM, and_true] at C
            go_wp2_with fail
            go_roundw
            case rel => exact ⟨k - 1, vs2, fs2, p2, c2, r2, d2, q2, F2, rfl, kle HK.out, HQM, H⟩
            case measure => exact kmeas hk0
        · obtain rfl : k = 0 := Nat.eq_zero_of_not_pos hk0
          skip
          go_wp2_with fail
          generalize hwb : (((((((((((wr.setCell _ _).setCell _ _).setCell _ _).setCell _ _).setCell _ _).setCell _ _).setCell _ _).setCell _ _).setCell _ _).setCell _ _).setCell _ _).setCell _ _ = w11
          replace H := HS.eqW hwb (H.putAll (i := 1) rfl (vs := [.int .i64 s0, .int .i64 s1, .int .i64 s2, .int .i64 s3, .int .i64 s4, .int .i64 s5, .int .i64 kd, .int .i64 dt, .int .i64 ck, .int .i64 fx, .slice pa qs.length pc, .slice ra fs.length rc]) rfl rfl)
          simp only [List.nil_append, List.cons_append, List.append_assoc, List.set_cons_succ, List.set_cons_zero] at H
          clear hwb
          try clear C
          try clear wr
          have C := H.cells
          try simp only [cellsOf, cellsM, apartOf, apartM, and_true] at C
          refine bodyPost_ret (by simp [results, Tryd.results12, go_sem, C]; try rfl) rfl ?_
          exact ⟨(⟨s0, s1, s2, s3, s4, s5, kd, dt, ck, fx, vs, fs⟩ : Mm), pa, pc, ra, rc, qs, F, HG.out.1, HG.out.2.1, by show sizeN s0 s1 s2 s3 s4 s5 ≤ 64; rw [← HZZ.out]; exact HZ4.out, HG.out.2.2.2, HG.out.2.2.1, rfl, HS.less H (by repeat (first | exact .slnil | refine .cons_cons _ ?_ | refine .cons _ ?_))⟩
end Go.Proofs.YtplflpmkomeadaaDoor
