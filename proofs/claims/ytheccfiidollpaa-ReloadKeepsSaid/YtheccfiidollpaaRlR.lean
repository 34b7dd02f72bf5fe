/- The statement ReloadKeeps: its walk. -/
import Derived.Test.YtheccfiidollpaaRlQ
import Derived.Test.YtheccfiidollpaaRlM
namespace Go.Proofs.Ytheccfiidollpaa
set_option linter.unusedSimpArgs false
set_option linter.unusedVariables false
open Go.RowKit
set_option maxRecDepth 100000
attribute [local go_sem] run_mkMapG
attribute [local irreducible] wpX wpF Calls

theorem store_one {D : Nat → Prop} {W w : World} {L : List Item} (h : HS D W L w) (i : Nat) {b n c : Nat} {id : Int} {sa : Option Addr} {t : TypeId} {bm : Bm} (hi : L[i]? = some (.blk b #[.int .i64 id, .slice sa n c] t)) (hb : BlobAt w ⟨id, ⟨sa, n, c⟩⟩ bm) : StoreAt w ⟨some ⟨b, 0, none⟩, 1, 1⟩ [bm] := by
  refine ⟨[⟨id, ⟨sa, n, c⟩⟩], rfl, rfl, ⟨Nat.le_refl _, fun e => by cases e⟩, h.blkLies i bvC_len hi rfl rfl, fun j hj => ?_⟩
  have : j = 0 := by simpa using hj
  subst this
  exact hb
theorem blob_none (w : World) : BlobAt w ⟨0, ⟨none, 0, 0⟩⟩ ⟨0, []⟩ := ⟨rfl, [], rfl, rfl, ⟨Nat.le_refl _, fun _ => rfl⟩, Lies.nil0, fun j hj => absurd hj (Nat.not_lt_zero _)⟩
theorem small_one {b : Bm} (h : SmallB b) : SmallS [b] := ⟨by simp, fun j hj => by
  have : j = 0 := by simpa using hj
  subst this
  exact h⟩
theorem small_none : SmallB ⟨0, []⟩ := ⟨by simp, fun j hj => absurd hj (Nat.not_lt_zero _)⟩
set_option maxHeartbeats 16000000 in
theorem rkeeps_walk (sa : Option Addr) (len cap : Nat) (hl : len ≤ maxLen) (w : World) (hI : Ints w sa len) :
    Calls Try.prog 4 #[.slice sa len cap] w (Gives (.bool true) w) := by
  have HI := Lib.hid hI
  clear hI
  have hli := light_any sa len cap hl
  clear hl
  have HAW := Lib.hid awake34_any
  have HT : Try.prog.underlying 41 = some (.map 3 32) := by kernel_rfl
  have HE : ∀ w, (zeroValue 32).run Try.prog w = .ok (.agg #[.int .i64 0, .slice none 0 0]) w := fun w => by rfl
  have HTH := Lib.hid HT
  have HEH := Lib.hid HE
  clear HT HE
  by_cases h400 : len ≤ 400
  · rw [decide_eq_true h400] at hli
    have HLI := Lib.hid hli
    clear hli
    go_enter Try.func4, Try.ntmps4
    have H := HS.start NoD w
    go_wp2_with fail
    refine (gives_of34 (HLI.out _)).mono ?_
    rintro _ w1 ⟨rfl, hb⟩
    replace H := H.below hb
    clear hb
    try clear C
    try simp only [World.size_alloc, List.nil_append, List.cons_append, List.append_assoc] at H
    have C := H.cells
    try simp only [cellsOf, cellsM, apartOf, apartM, and_true] at C
    dsimp only
    go_wp2_with fail
    refine (roll_at w.heap.size _ _ _ h400 _ H.size (H.ints HI.out)).mono ?_
    rintro _ w2 ⟨bd, rfl, hd, hb, hbb⟩
    replace H := H.getsDice hb hd hbb (Nat.le_refl _)
    clear hb hd hbb
    try clear C
    try simp only [World.size_alloc, List.nil_append, List.cons_append, List.append_assoc] at H
    try clear w1
    have C := H.cells
    try simp only [cellsOf, cellsM, apartOf, apartM, and_true] at C
    dsimp only
    go_upto_region 6 with fail
    generalize hwb : World.alloc _ _ = w3
    have hn1 := HS.eqW hwb H.allocObj
    clear H C hwb
    have H := hn1
    clear hn1
    simp only [List.nil_append, List.cons_append] at H
    generalize (w2).heap.size = bM at H ⊢
    have hn1 := (((H.nilRow 32 2).anyNil).anyNil)
    clear H
    simp only [List.nil_append, List.cons_append] at hn1
    have hn2 := HS.weak (L := [_, _, _, _]) hn1 (K' := WantAt [] (fun _ => none)) (fun _ _ b hb => by cases hb)
    have hn3 := HS.permu (L' := [.dice w.heap.size bd, .obj bM (.map #[] 0), .row (.slice none 0 0) 32 2 0 [], .any (fun _ => False) (WantAt [] fun _ => none), .any (fun _ => False) (fun _ => True)]) hn2 (List.Perm.cons _ (List.Perm.cons _ (List.Perm.cons _ (List.Perm.swap _ _ []))))
    have hn4 := HS.weak (L := [_, _, _, _]) hn3 (K' := fun w => ∀ i, i < ([] : List Bm).length → BlobAt w ([] : List Bv)[i]! ([] : List Bm)[i]!) (fun _ _ i hi => absurd hi (Nat.not_lt_zero _))
    have H := HS.permu (L' := [.dice w.heap.size bd, rowB none 0 0 [], anyB (fun _ => False) [] [], .obj bM (.map #[] 0), .any (fun _ => False) (WantAt [] fun _ => none)]) hn4 (List.Perm.cons _ (((List.Perm.swap _ _ _).trans (List.Perm.cons _ ((List.Perm.cons _ (List.Perm.swap _ _ [])).trans (List.Perm.swap _ _ _))))))
    clear hn1 hn2 hn3 hn4
    skip
    try clear C
    try simp only [World.size_alloc, List.nil_append, List.cons_append, List.append_assoc] at H
    have C := H.cells
    try simp only [cellsOf, cellsM, apartOf, apartM, and_true] at C
    go_wp2_with fail
    go_loopw [4, 6] (fun u kk wr => ∃ (k : Nat) (l : List Bm) (s : Option Addr) (c : Nat) (qs : List Bv) (F : Nat → Prop) (f : Int → Option Bv) (es : Array MapEntry) (ck : Nat) (M : List (Int × Value)) (FW : Nat → Prop), kk = .int .i64 k ∧ k ≤ 20 ∧ u = .slice s l.length c ∧ qs.length = l.length ∧ Hid (GoodS 2 l) ∧ Hid (Wants l f) ∧ Hid (MapG kI es ck M) ∧ Hid (∀ x, getG x M = (f x).map vBv) ∧ HS NoD w [.dice w.heap.size bd, rowB s l.length c qs, anyB F qs l, .obj bM (.map es ck), .any FW (WantAt l f)] wr) (fun _ kk _ => 20 - (intOf kk).toNat)
    case atStart => exact ⟨0, [], none, 0, [], fun _ => False, fun _ => none, #[], 0, [], fun _ => False, rfl, by omega, rfl, rfl, GoodS.nil 2, (show Hid _ from fun id => ⟨fun h => absurd rfl h, fun ⟨b, hb, _⟩ => by cases hb⟩), MapG.nil kI, (show Hid _ from fun x => rfl), H⟩
    case round =>
      clear H C
      obtain ⟨k, l, s, c, qs, F, f, es, ck, M, FW, rfl, hk, rfl, hql, HG, HWN, HM, HF, H⟩ := hrel
      have HQL := Lib.hid hql
      have hl64 := HG.out.len
      clear hql
      skip
      try clear C
      try simp only [World.size_alloc, List.nil_append, List.cons_append, List.append_assoc] at H
      have C := H.cells
      try simp only [cellsOf, cellsM, apartOf, apartM, and_true] at C
      skip
      by_cases hk0 : k < 20
      · have hki : (k : Int) < 20 := by omega
        have HSB := Lib.hid (fun (wx : World) (h1 : wx.ownsRow 0 32 2 (.slice s l.length c) l.length (qs.flatMap bvC)) h2 => storeAt_of h1 rfl HQL.out h2)
        go_wp2_with fail
        refine (mblob_any 2 (by omega) w.heap.size bd _ (H.at 0 rfl) H.size).mono ?_
        rintro _ w4 ⟨q1, b, G1, rfl, -, -, hgb, K⟩
        replace H := HS.joinDice H 0 rfl K (one_low rfl)
        clear K
        try simp only [List.nil_append, List.cons_append] at H
        obtain ⟨q1i, q1a, q1n, q1c⟩ := q1
        have HGB := Lib.hid hgb
        clear hgb
        skip
        try clear C
        try simp only [World.size_alloc, List.nil_append, List.cons_append, List.append_assoc] at H
        have C := H.cells
        try simp only [cellsOf, cellsM, apartOf, apartM, and_true] at C
        dsimp only [vBv]
        go_upto_region 10 with fail
        generalize hwb : w4.alloc _ = w3
        replace H := HS.eqW hwb H.alloc
        try simp only [World.size_alloc, List.nil_append, List.cons_append, List.append_assoc] at H
        clear hwb
        generalize w4.heap.size = b7 at H ⊢
        try clear C
        try clear w4
        have C := H.cells
        try simp only [cellsOf, cellsM, apartOf, apartM, and_true] at C
        go_wp2_with fail
        refine (mblob_any 2 (by omega) w.heap.size bd _ (H.at 0 rfl) H.size).mono ?_
        rintro _ w5 ⟨q2, cb, G2, rfl, -, -, hgc, K⟩
        replace H := HS.joinDice H 0 rfl K (one_low rfl)
        clear K
        try simp only [List.nil_append, List.cons_append] at H
        obtain ⟨q2i, q2a, q2n, q2c⟩ := q2
        have HGC := Lib.hid hgc
        clear hgc
        skip
        try clear C
        try simp only [World.size_alloc, List.nil_append, List.cons_append, List.append_assoc] at H
        have C := H.cells
        try simp only [cellsOf, cellsM, apartOf, apartM, and_true] at C
        dsimp only [vBv]
        go_upto_region 11 with fail
        generalize hwb : w5.alloc _ = w4
        replace H := HS.eqW hwb H.alloc
        try simp only [World.size_alloc, List.nil_append, List.cons_append, List.append_assoc] at H
        clear hwb
        generalize w5.heap.size = b8 at H ⊢
        try clear C
        try clear w5
        have C := H.cells
        try simp only [cellsOf, cellsM, apartOf, apartM, and_true] at C
        go_wp2_with fail
        refine (next_any 3 (by omega) w.heap.size bd _ (H.at 0 rfl)).mono ?_
        rintro _ w5 ⟨v0, rfl, hv0, hd, hg⟩
        replace H := (H).diceAt 0 rfl hg hd
        clear hg hd
        try clear C
        try simp only [World.size_alloc, List.nil_append, List.cons_append, List.append_assoc] at H
        try clear w4
        have C := H.cells
        try simp only [cellsOf, cellsM, apartOf, apartM, and_true] at C
        dsimp only
        clear hv0
        have HID1 := Lib.hid (show q1i = b.id from (H.says 5 rfl).1)
        have HID2 := Lib.hid (show q2i = cb.id from (H.says 7 rfl).1)
        obtain ⟨c0, hc0⟩ : ∃ b0, b0 = (v0 == 0) := ⟨_, rfl⟩
        go_upto_if 39 with fail
        go_cut [4, 9, 10, 11, 12, 13, 14, 15, 16] from 29 to 135 (fun u _ _ _ _ _ _ _ _ wx => ∃ (l : List Bm) (s : Option Addr) (c : Nat) (qs : List Bv) (F : Nat → Prop) (f : Int → Option Bv) (es : Array MapEntry) (ck : Nat) (M : List (Int × Value)) (FW : Nat → Prop), u = .slice s l.length c ∧ qs.length = l.length ∧ Hid (GoodS 2 l) ∧ Hid (Wants l f) ∧ Hid (MapG kI es ck M) ∧ Hid (∀ x, getG x M = (f x).map vBv) ∧ HS NoD w [.dice w.heap.size bd, rowB s l.length c qs, anyB F qs l, .obj bM (.map es ck), .any FW (WantAt l f)] wx)
        case first =>
          skip
          by_cases h0 : v0 = 0
          · subst h0
            have HDR := Lib.hid (fun w h => (show Calls Try.prog 15 #[.slice s l.length c, .int .i64 q1i] w _ from rdrop_any 2 (by omega) ⟨s, l.length, c⟩ l HG.out q1i w h))
            go_wp2_with fail
            refine (HDR.out _ (HSB.out _ (H.at 1 rfl) (H.says 2 rfl))).mono ?_
            rintro _ w6 ⟨s6, c6, qs6, F6, hq6, rfl, K⟩
            replace H := H.join K (fun A hA => by simp only [List.mem_cons, List.mem_nil_iff, or_false] at hA; rcases hA with rfl | rfl <;> rfl)
            clear K HDR
            simp only [List.nil_append, List.cons_append] at H
            skip
            try clear C
            try simp only [World.size_alloc, List.nil_append, List.cons_append, List.append_assoc] at H
            have C := H.cells
            try simp only [cellsOf, cellsM, apartOf, apartM, and_true] at C
            dsimp only
            go_wp2_with (at_delete; refine wpList_delete_G rfl (.tmp 44) (.tmp 46) rfl HTH.out keyI H 3 rfl HM.out rfl (n := q1i) rfl (fun wy es' hM' hsub HZ => ?_); clear H C)
            simp only [List.set_cons_succ, List.set_cons_zero] at HZ
            have H9 := HS.less (L' := [.dice w.heap.size bd, .obj bM (.map es' ck), .any FW (WantAt l f), rowB s6 (dropAt l q1i).length c6 qs6, anyB F6 qs6 (dropAt l q1i)]) HZ (.cons_cons _ (.cons _ (.cons _ (.cons_cons _ (.cons_cons _ (.cons _ (.cons _ (.cons _ (.cons _ (.cons_cons _ (.cons_cons _ .slnil)))))))))))
            have H8 := HS.permu (L' := [.dice w.heap.size bd, rowB s6 (dropAt l q1i).length c6 qs6, anyB F6 qs6 (dropAt l q1i), .obj bM (.map es' ck), .any FW (WantAt l f)]) H9 (List.Perm.cons _ (List.perm_append_comm (l₁ := [_, _]) (l₂ := [_, _])))
            have H7 := HS.weak (L := [_, _, _, _]) H8 (K' := WantAt (dropAt l q1i) (fun x => if x = q1i then none else f x)) (fun _ h => h.drop q1i)
            clear HZ H9 H8
            have H7 := Lib.hid H7
            have HG2 := Lib.hid (HG.out.drop q1i)
            have HW2 := Lib.hid (wants_drop HWN.out q1i)
            have HM2 := Lib.hid hM'
            have HF2 := Lib.hid (show ∀ x, getG x (delG q1i M) = ((fun x => if x = q1i then none else f x) x).map vBv from fun x => by
              rw [getG_del _ _ _ HM.out.keys]
              dsimp only
              by_cases e : x = q1i
              · rw [if_pos e, if_pos e]; rfl
              · rw [if_neg e, if_neg e]; exact HF.out x)
            clear hM' hsub
            go_wp2_with fail
            go_meet
            case rel => exact ⟨dropAt l q1i, s6, c6, qs6, F6, fun x => if x = q1i then none else f x, es', ck, delG q1i M, FW, rfl, hq6, HG2, HW2, HM2, HF2, H7.out⟩
          · have h0b : (v0 == 0) = false := beq_eq_false_iff_ne.2 h0
            have HP1 := Lib.hid (fun w h hb => (show Calls Try.prog 12 #[.int .i64 2, .slice s l.length c, .agg #[.int .i64 q1i, .slice q1a q1n q1c]] w (GivesPut l b w) from rput_any 2 (by omega) (by omega) ⟨s, l.length, c⟩ l HG.out ⟨q1i, ⟨q1a, q1n, q1c⟩⟩ b HGB.out w h hb))
            skip
            go_wp2_with fail
            refine (HP1.out _ (HSB.out _ (H.at 1 rfl) (H.says 2 rfl)) (H.says 5 rfl)).mono ?_
            rintro _ w6 ⟨i1, r1, s6, c6, qs6, F6, hpo1, hr1, hq6, rfl, K⟩
            replace H := H.join K (fun A hA => by simp only [List.mem_cons, List.mem_nil_iff, or_false] at hA; rcases hA with rfl | rfl <;> rfl)
            clear K HP1
            simp only [List.nil_append, List.cons_append] at H
            have HPO1 := Lib.hid hpo1
            have HR1 := Lib.hid hr1
            have HQ6 := Lib.hid hq6
            have HG1 := Lib.hid (show GoodS 2 r1 by rw [hr1]; exact HG.out.put HGB.out hpo1)
            clear hpo1 hr1 hq6
            skip
            try clear C
            try simp only [World.size_alloc, List.nil_append, List.cons_append, List.append_assoc] at H
            have C := H.cells
            try simp only [cellsOf, cellsM, apartOf, apartM, and_true] at C
            dsimp only
            skip
            by_cases hne : q1i = q2i
            · have hneb : (q1i != q2i) = false := by simp [hne]
              have HNE := Lib.hid hne
              clear hne
              go_wp2_with (at_mapUpdate; refine wpList_update_G rfl (.tmp 95) (.tmp 97) (.tmp 98) rfl HTH.out keyI H 3 rfl HM.out rfl (n := q1i) (u := vBv ⟨q1i, ⟨q1a, q1n, q1c⟩⟩) rfl rfl (fun wy es' c' hM' HZ => ?_); clear H C)
              simp only [List.set_cons_succ, List.set_cons_zero] at HZ
              have H9 := HS.less (L' := [.dice w.heap.size bd, .obj bM (.map es' c'), .any FW (WantAt l f), .any G1 (fun w => BlobAt w ⟨q1i, ⟨q1a, q1n, q1c⟩⟩ b), rowB s6 r1.length c6 qs6, anyB F6 qs6 r1]) HZ (.cons_cons _ (.cons _ (.cons _ (.cons_cons _ (.cons_cons _ (.cons_cons _ (.cons _ (.cons _ (.cons _ (.cons_cons _ (.cons_cons _ .slnil)))))))))))
              have H8 := HS.permu (L' := [.dice w.heap.size bd, rowB s6 r1.length c6 qs6, anyB F6 qs6 r1, .obj bM (.map es' c'), .any FW (WantAt l f), .any G1 (fun w => BlobAt w ⟨q1i, ⟨q1a, q1n, q1c⟩⟩ b)]) H9 (List.Perm.cons _ (List.perm_append_comm (l₁ := [_, _, _]) (l₂ := [_, _])))
              have H7 := HS.merge (L := [_, _, _, _]) H8
              have H6 := HS.weak (L := [_, _, _, _]) H7 (K' := WantAt r1 (fun x => if x = b.id then some ⟨q1i, ⟨q1a, q1n, q1c⟩⟩ else f x)) (fun _ ⟨a1, a2⟩ => by
                have := a1.put HG.out HPO1.out a2
                rw [← HR1.out] at this
                exact this)
              clear HZ H9 H8 H7
              have H6 := Lib.hid H6
              have HWN2 := Lib.hid (show Wants r1 (fun x => if x = b.id then some ⟨q1i, ⟨q1a, q1n, q1c⟩⟩ else f x) by rw [HR1.out]; exact wants_put HG.out HWN.out HPO1.out _)
              have HMM := Lib.hid hM'
              have HF2 := Lib.hid (show ∀ x, getG x (putG q1i (vBv ⟨q1i, ⟨q1a, q1n, q1c⟩⟩) M) = ((fun x => if x = b.id then some (⟨q1i, ⟨q1a, q1n, q1c⟩⟩ : Bv) else f x) x).map vBv from fun x => by
                rw [getG_put, HID1.out]
                dsimp only
                by_cases e : x = b.id
                · rw [if_pos e, if_pos e]; rfl
                · rw [if_neg e, if_neg e]; exact HF.out x)
              clear hM'
              go_wp2_with fail
              go_meet
              case rel => exact ⟨r1, s6, c6, qs6, F6, fun x => if x = b.id then some ⟨q1i, ⟨q1a, q1n, q1c⟩⟩ else f x, es', c', putG q1i (vBv ⟨q1i, ⟨q1a, q1n, q1c⟩⟩) M, _, rfl, HQ6.out, HG1, HWN2, HMM, HF2, H6.out⟩
            · have hneb : (q1i != q2i) = true := bne_iff_ne.2 hne
              have HNE := Lib.hid hne
              clear hne
              have HP2 := Lib.hid (fun w h hb => (show Calls Try.prog 12 #[.int .i64 2, .slice s6 r1.length c6, .agg #[.int .i64 q2i, .slice q2a q2n q2c]] w (GivesPut r1 cb w) from rput_any 2 (by omega) (by omega) ⟨s6, r1.length, c6⟩ r1 HG1.out ⟨q2i, ⟨q2a, q2n, q2c⟩⟩ cb HGC.out w h hb))
              have HP3 := Lib.hid (fun w h hb => (show Calls Try.prog 12 #[.int .i64 2, .slice s l.length c, .agg #[.int .i64 q2i, .slice q2a q2n q2c]] w (GivesPut l cb w) from rput_any 2 (by omega) (by omega) ⟨s, l.length, c⟩ l HG.out ⟨q2i, ⟨q2a, q2n, q2c⟩⟩ cb HGC.out w h hb))
              skip
              go_wp2_with fail
              refine (HP2.out _ (storeAt_of (H.at 9 rfl) rfl HQ6.out (H.says 10 rfl)) (H.says 7 rfl)).mono ?_
              rintro _ w7 ⟨i2, r2, s7, c7, qs7, F7, hpo2, hr2, hq7, rfl, K⟩
              replace H := H.join K (fun A hA => by simp only [List.mem_cons, List.mem_nil_iff, or_false] at hA; rcases hA with rfl | rfl <;> rfl)
              clear K HP2
              simp only [List.nil_append, List.cons_append] at H
              have HPO2 := Lib.hid hpo2
              have HR2 := Lib.hid hr2
              have HQ7 := Lib.hid hq7
              have HG2 := Lib.hid (show GoodS 2 r2 by rw [hr2]; exact HG1.out.put HGC.out hpo2)
              clear hpo2 hr2 hq7
              skip
              try clear C
              try simp only [World.size_alloc, List.nil_append, List.cons_append, List.append_assoc] at H
              have C := H.cells
              try simp only [cellsOf, cellsM, apartOf, apartM, and_true] at C
              dsimp only
              go_wp2_with fail
              refine (HP3.out _ (HSB.out _ (H.at 1 rfl) (H.says 2 rfl)) (H.says 7 rfl)).mono ?_
              rintro _ w8 ⟨i3, r3, s8, c8, qs8, F8, hpo3, hr3, hq8, rfl, K⟩
              replace H := H.join K (fun A hA => by simp only [List.mem_cons, List.mem_nil_iff, or_false] at hA; rcases hA with rfl | rfl <;> rfl)
              clear K HP3
              simp only [List.nil_append, List.cons_append] at H
              have HPO3 := Lib.hid hpo3
              have HR3 := Lib.hid hr3
              have HQ8 := Lib.hid hq8
              have HG3 := Lib.hid (show GoodS 2 r3 by rw [hr3]; exact HG.out.put HGC.out hpo3)
              clear hpo3 hr3 hq8
              have HP4 := Lib.hid (fun w h hb => (show Calls Try.prog 12 #[.int .i64 2, .slice s8 r3.length c8, .agg #[.int .i64 q1i, .slice q1a q1n q1c]] w (GivesPut r3 b w) from rput_any 2 (by omega) (by omega) ⟨s8, r3.length, c8⟩ r3 HG3.out ⟨q1i, ⟨q1a, q1n, q1c⟩⟩ b HGB.out w h hb))
              skip
              try clear C
              try simp only [World.size_alloc, List.nil_append, List.cons_append, List.append_assoc] at H
              have C := H.cells
              try simp only [cellsOf, cellsM, apartOf, apartM, and_true] at C
              dsimp only
              go_wp2_with fail
              refine (HP4.out _ (storeAt_of (H.at 13 rfl) rfl HQ8.out (H.says 14 rfl)) (H.says 5 rfl)).mono ?_
              rintro _ w9 ⟨i4, r4, s9, c9, qs9, F9, hpo4, hr4, hq9, rfl, K⟩
              replace H := H.join K (fun A hA => by simp only [List.mem_cons, List.mem_nil_iff, or_false] at hA; rcases hA with rfl | rfl <;> rfl)
              clear K HP4
              simp only [List.nil_append, List.cons_append] at H
              have hr42 : r4 = r2 := by
                have h1 := HPO1.out
                have h2 := HPO2.out
                have h3 := HPO3.out
                have h4 := hpo4
                have e1 := HR1.out
                have e3 := HR3.out
                rw [e1] at h2
                rw [e3] at h4
                have := put_comm HG.out HGB.out HGC.out (fun e => HNE.out (by rw [HID1.out, HID2.out, e])) h1 h2 h3 h4
                rw [hr4, HR2.out, e1, e3, this]
              subst hr42
              have HQ9 := Lib.hid hq9
              clear hpo4 hr4 hq9
              have HSM := Lib.hid (fun w h1 h2 => (show Calls Try.prog 16 #[.slice s7 r4.length c7, .slice s9 r4.length c9] w _ from rsame34_any ⟨s7, r4.length, c7⟩ ⟨s9, r4.length, c9⟩ r4 (HG2.out.small (by omega)) w h1 h2))
              skip
              try clear C
              try simp only [World.size_alloc, List.nil_append, List.cons_append, List.append_assoc] at H
              have C := H.cells
              try simp only [cellsOf, cellsM, apartOf, apartM, and_true] at C
              dsimp only
              go_wp2_with fail
              refine (HSM.out _ (storeAt_of (H.at 11 rfl) rfl HQ7.out (H.says 12 rfl)) (storeAt_of (H.at 15 rfl) rfl HQ9.out (H.says 16 rfl))).mono ?_
              rintro _ w6 ⟨rfl, hb⟩
              replace H := H.below hb
              clear hb
              try clear C
              try simp only [World.size_alloc, List.nil_append, List.cons_append, List.append_assoc] at H
              try clear w9
              have C := H.cells
              try simp only [cellsOf, cellsM, apartOf, apartM, and_true] at C
              dsimp only
              have H5 := HS.less (L' := [.dice w.heap.size bd, rowB s l.length c qs, anyB F qs l, .obj bM (.map es ck), .any FW (WantAt l f), .any G1 (fun w => BlobAt w ⟨q1i, ⟨q1a, q1n, q1c⟩⟩ b), .blk b7 #[.int .i64 q1i, .slice q1a q1n q1c] 32, .any G2 (fun w => BlobAt w ⟨q2i, ⟨q2a, q2n, q2c⟩⟩ cb), .blk b8 #[.int .i64 q2i, .slice q2a q2n q2c] 32, rowB s6 r1.length c6 qs6, anyB F6 qs6 r1]) H (.cons_cons _ (.cons_cons _ (.cons_cons _ (.cons_cons _ (.cons_cons _ (.cons_cons _ (.cons_cons _ (.cons_cons _ (.cons_cons _ (.cons_cons _ (.cons_cons _ (List.nil_sublist _))))))))))))
              clear H
              have H := H5
              clear H5
              go_wp2_with (at_mapUpdate; refine wpList_update_G rfl (.tmp 95) (.tmp 97) (.tmp 98) rfl HTH.out keyI H 3 rfl HM.out rfl (n := q1i) (u := vBv ⟨q1i, ⟨q1a, q1n, q1c⟩⟩) rfl rfl (fun wy es' c' hM' HZ => ?_); clear H C)
              simp only [List.set_cons_succ, List.set_cons_zero] at HZ
              have H9 := HS.less (L' := [.dice w.heap.size bd, .obj bM (.map es' c'), .any FW (WantAt l f), .any G1 (fun w => BlobAt w ⟨q1i, ⟨q1a, q1n, q1c⟩⟩ b), rowB s6 r1.length c6 qs6, anyB F6 qs6 r1]) HZ (.cons_cons _ (.cons _ (.cons _ (.cons_cons _ (.cons_cons _ (.cons_cons _ (.cons _ (.cons _ (.cons _ (.cons_cons _ (.cons_cons _ .slnil)))))))))))
              have H8 := HS.permu (L' := [.dice w.heap.size bd, rowB s6 r1.length c6 qs6, anyB F6 qs6 r1, .obj bM (.map es' c'), .any FW (WantAt l f), .any G1 (fun w => BlobAt w ⟨q1i, ⟨q1a, q1n, q1c⟩⟩ b)]) H9 (List.Perm.cons _ (List.perm_append_comm (l₁ := [_, _, _]) (l₂ := [_, _])))
              have H7 := HS.merge (L := [_, _, _, _]) H8
              have H6 := HS.weak (L := [_, _, _, _]) H7 (K' := WantAt r1 (fun x => if x = b.id then some ⟨q1i, ⟨q1a, q1n, q1c⟩⟩ else f x)) (fun _ ⟨a1, a2⟩ => by
                have := a1.put HG.out HPO1.out a2
                rw [← HR1.out] at this
                exact this)
              clear HZ H9 H8 H7
              have H6 := Lib.hid H6
              have HWN2 := Lib.hid (show Wants r1 (fun x => if x = b.id then some ⟨q1i, ⟨q1a, q1n, q1c⟩⟩ else f x) by rw [HR1.out]; exact wants_put HG.out HWN.out HPO1.out _)
              have HMM := Lib.hid hM'
              have HF2 := Lib.hid (show ∀ x, getG x (putG q1i (vBv ⟨q1i, ⟨q1a, q1n, q1c⟩⟩) M) = ((fun x => if x = b.id then some (⟨q1i, ⟨q1a, q1n, q1c⟩⟩ : Bv) else f x) x).map vBv from fun x => by
                rw [getG_put, HID1.out]
                dsimp only
                by_cases e : x = b.id
                · rw [if_pos e, if_pos e]; rfl
                · rw [if_neg e, if_neg e]; exact HF.out x)
              clear hM'
              go_wp2_with fail
              go_meet
              case rel => exact ⟨r1, s6, c6, qs6, F6, fun x => if x = b.id then some ⟨q1i, ⟨q1a, q1n, q1c⟩⟩ else f x, es', c', putG q1i (vBv ⟨q1i, ⟨q1a, q1n, q1c⟩⟩) M, _, rfl, HQ6.out, HG1, HWN2, HMM, HF2, H6.out⟩
        case rest =>
          clear H C HSB HG HWN HM HF HQL HGB HGC HID1 HID2 hl64 c0 hc0
          obtain ⟨l, s, c, qs, F, f, es, ck, M, FW, rfl, hql, HG, HWN, HM, HF, H⟩ := hcut
          have HQL := Lib.hid hql
          have hl64 := HG.out.len
          have hml : es.size = l.length := HM.out.len.trans (wants_len HG.out HWN.out HM.out.keys HF.out)
          clear hql
          have HSB := Lib.hid (fun (wx : World) (h1 : wx.ownsRow 0 32 2 (.slice s l.length c) l.length (qs.flatMap bvC)) h2 => storeAt_of h1 rfl HQL.out h2)
          have HVA := Lib.hid (fun w h => (show Calls Try.prog 17 #[.int .i64 2, .slice s l.length c] w _ from rvalid34_any 2 (by omega) (by omega) ⟨s, l.length, c⟩ l HG.out w h))
          have HGT := Lib.hid (fun id w h => (show Calls Try.prog 13 #[.slice s l.length c, .int .i64 id] w _ from rget_any ⟨s, l.length, c⟩ l (HG.out.small (by omega)) id w h))
          have HLN := Lib.hid (fun (wx : World) (hb : wx.heap[bM]? = some (.map es ck)) (ty : TypeId) => show (Builtin.len_ #[41] ty #[.map (some bM)]).run Try.prog wx = .ok (.int .i64 l.length) wx from by
            have := run_len_mapG (P := Try.prog) (ty := ty) HTH.out hb
            rw [hml] at this
            exact this)
          clear hml
          skip
          try clear C
          try simp only [World.size_alloc, List.nil_append, List.cons_append, List.append_assoc] at H
          have C := H.cells
          try simp only [cellsOf, cellsM, apartOf, apartM, and_true] at C
          go_wp2_with fail
          refine (HVA.out _ (HSB.out _ (H.at 1 rfl) (H.says 2 rfl))).mono ?_
          rintro _ w7 ⟨rfl, hb⟩
          replace H := H.below hb
          clear hb
          try clear C
          try simp only [World.size_alloc, List.nil_append, List.cons_append, List.append_assoc] at H
          try clear wc
          have C := H.cells
          try simp only [cellsOf, cellsM, apartOf, apartM, and_true] at C
          dsimp only
          have hln := fun ty => HLN.out _ (H.at 3 rfl) ty
          go_wp2_with fail
          clear hln
          go_loopw [17] (fun kk wr => ∃ (id : Nat), kk = .int .i64 id ∧ 1 ≤ id ∧ id ≤ 8 ∧ HS NoD w [.dice w.heap.size bd, rowB s l.length c qs, anyB F qs l, .obj bM (.map es ck), .any FW (WantAt l f)] wr) (fun kk _ => 8 - (intOf kk).toNat)
          case atStart => exact ⟨1, rfl, by omega, by omega, H⟩
          case round =>
            clear H C
            obtain ⟨id, rfl, hid1, hid8, H⟩ := hrel
            skip
            try clear C
            try simp only [World.size_alloc, List.nil_append, List.cons_append, List.append_assoc] at H
            have C := H.cells
            try simp only [cellsOf, cellsM, apartOf, apartM, and_true] at C
            skip
            by_cases hid : id < 8
            · have hidi : (id : Int) ≤ 7 := by omega
              go_wp2_with fail
              refine (HGT.out _ _ (HSB.out _ (H.at 1 rfl) (H.says 2 rfl))).mono ?_
              rintro _ w7 hg
              rcases hg with ⟨i, q, G, hi, hbi, rfl, K⟩ | ⟨hno, rfl, K⟩
              · have HB := Lib.hid (mem_bang hi)
                have HBI := Lib.hid hbi
                have HSMB := Lib.hid ((HG.out.small (by omega)).2 i hi)
                generalize l[i]! = bm at HB HBI HSMB K
                replace H := H.join K (one_low rfl)
                clear K hi hbi
                simp only [List.nil_append, List.cons_append] at H
                obtain ⟨qi, qa, qn, qc⟩ := q
                obtain ⟨⟨ri, ra, rn, rc⟩, hfr⟩ : ∃ r, f id = some r := by
                  cases e : f id with
                  | none => exact absurd e ((HWN.out id).2 ⟨bm, HB.out, HBI.out⟩)
                  | some r => exact ⟨r, rfl⟩
                have HQV := Lib.hid (show (getG (id : Int) M).getD (.agg #[.int .i64 0, .slice none 0 0]) = .agg #[.int .i64 ri, .slice ra rn rc] by rw [HF.out, hfr]; rfl)
                have HQO := Lib.hid (show (getG (id : Int) M).isSome = true by rw [HF.out, hfr]; rfl)
                have HWB := Lib.hid (fun (wx : World) (h : WantAt l f wx) => (show BlobAt wx ⟨ri, ⟨ra, rn, rc⟩⟩ bm from h bm HB.out _ (by rw [HBI.out]; exact hfr)))
                clear hfr
                skip
                try clear C
                try simp only [World.size_alloc, List.nil_append, List.cons_append, List.append_assoc] at H
                have C := H.cells
                try simp only [cellsOf, cellsM, apartOf, apartM, and_true] at C
                dsimp only [vBv]
                go_upto_region 31 with fail
                generalize hwb : w7.alloc _ = w8
                replace H := HS.eqW hwb H.alloc
                try simp only [World.size_alloc, List.nil_append, List.cons_append, List.append_assoc] at H
                clear hwb
                generalize w7.heap.size = b18 at H ⊢
                try clear C
                try clear w7
                have C := H.cells
                try simp only [cellsOf, cellsM, apartOf, apartM, and_true] at C
                go_upto_region 32 with (at_lookup; refine wpList_lookup_G rfl (.tmp 120) (.tmp 121) rfl HTH.out keyI HEH.out H 3 rfl HM.out rfl (n := (id : Int)) rfl HQV.out HQO.out ?_)
                generalize hwb : w8.alloc _ = w9
                replace H := HS.eqW hwb H.alloc
                try simp only [World.size_alloc, List.nil_append, List.cons_append, List.append_assoc] at H
                clear hwb
                generalize w8.heap.size = b20 at H ⊢
                try clear C
                try clear w8
                have C := H.cells
                try simp only [cellsOf, cellsM, apartOf, apartM, and_true] at C
                have HSM := Lib.hid (fun b1 b2 w h1 h2 => (show Calls Try.prog 16 #[.slice (some ⟨b1, 0, none⟩) 1 1, .slice (some ⟨b2, 0, none⟩) 1 1] w _ from rsame34_any ⟨some ⟨b1, 0, none⟩, 1, 1⟩ ⟨some ⟨b2, 0, none⟩, 1, 1⟩ [bm] (small_one HSMB.out) w h1 h2))
                go_wp2_with fail
                generalize hwb : (w9.alloc _).alloc _ = w10
                replace H := HS.eqW hwb H.alloc.alloc
                try simp only [World.size_alloc, List.nil_append, List.cons_append, List.append_assoc] at H
                clear hwb
                generalize w9.heap.size + 1 = bL2 at H ⊢
                generalize w9.heap.size = bL1 at H ⊢
                try clear C
                try clear w9
                have C := H.cells
                try simp only [cellsOf, cellsM, apartOf, apartM, and_true] at C
                refine (HSM.out _ _ _ (store_one H 8 rfl (H.says 5 rfl)) (store_one H 9 rfl (HWB.out _ (H.says 4 rfl)))).mono ?_
                rintro _ w11 ⟨rfl, hb⟩
                replace H := H.below hb
                clear hb
                try clear C
                try simp only [World.size_alloc, List.nil_append, List.cons_append, List.append_assoc] at H
                try clear w10
                have C := H.cells
                try simp only [cellsOf, cellsM, apartOf, apartM, and_true] at C
                dsimp only
                go_wp2_with fail
                go_roundw
                case rel => exact ⟨id + 1, by go_num, by omega, by omega, HS.less H (by repeat (first | exact .slnil | refine .cons_cons _ ?_ | refine .cons _ ?_))⟩
                case measure => simp [intOf]; omega
              · have hfn : f id = none := by
                  cases e : f id with
                  | none => rfl
                  | some r =>
                    obtain ⟨b0, hb0, e0⟩ := (HWN.out id).1 (by rw [e]; simp)
                    obtain ⟨j, hj, rfl⟩ := of_mem hb0
                    exact absurd e0 (hno j hj)
                have HQV := Lib.hid (show (getG (id : Int) M).getD (.agg #[.int .i64 0, .slice none 0 0]) = .agg #[.int .i64 0, .slice none 0 0] by rw [HF.out, hfn]; rfl)
                have HQO := Lib.hid (show (getG (id : Int) M).isSome = false by rw [HF.out, hfn]; rfl)
                replace H := H.below K.done
                clear K hfn hno
                skip
                try clear C
                try simp only [World.size_alloc, List.nil_append, List.cons_append, List.append_assoc] at H
                have C := H.cells
                try simp only [cellsOf, cellsM, apartOf, apartM, and_true] at C
                dsimp only [vBv]
                go_upto_region 31 with fail
                generalize hwb : w7.alloc _ = w12
                replace H := HS.eqW hwb H.alloc
                try simp only [World.size_alloc, List.nil_append, List.cons_append, List.append_assoc] at H
                clear hwb
                generalize w7.heap.size = b18 at H ⊢
                try clear C
                try clear w7
                have C := H.cells
                try simp only [cellsOf, cellsM, apartOf, apartM, and_true] at C
                go_upto_region 32 with (at_lookup; refine wpList_lookup_G rfl (.tmp 120) (.tmp 121) rfl HTH.out keyI HEH.out H 3 rfl HM.out rfl (n := (id : Int)) rfl HQV.out HQO.out ?_)
                generalize hwb : w12.alloc _ = w13
                replace H := HS.eqW hwb H.alloc
                try simp only [World.size_alloc, List.nil_append, List.cons_append, List.append_assoc] at H
                clear hwb
                generalize w12.heap.size = b20 at H ⊢
                try clear C
                try clear w12
                have C := H.cells
                try simp only [cellsOf, cellsM, apartOf, apartM, and_true] at C
                have HSM := Lib.hid (fun b1 b2 w h1 h2 => (show Calls Try.prog 16 #[.slice (some ⟨b1, 0, none⟩) 1 1, .slice (some ⟨b2, 0, none⟩) 1 1] w _ from rsame34_any ⟨some ⟨b1, 0, none⟩, 1, 1⟩ ⟨some ⟨b2, 0, none⟩, 1, 1⟩ [⟨0, []⟩] (small_one small_none) w h1 h2))
                go_wp2_with fail
                generalize hwb : (w13.alloc _).alloc _ = w14
                replace H := HS.eqW hwb H.alloc.alloc
                try simp only [World.size_alloc, List.nil_append, List.cons_append, List.append_assoc] at H
                clear hwb
                generalize w13.heap.size + 1 = bL2 at H ⊢
                generalize w13.heap.size = bL1 at H ⊢
                try clear C
                try clear w13
                have C := H.cells
                try simp only [cellsOf, cellsM, apartOf, apartM, and_true] at C
                refine (HSM.out _ _ _ (store_one H 7 rfl (blob_none _)) (store_one H 8 rfl (blob_none _))).mono ?_
                rintro _ w15 ⟨rfl, hb⟩
                replace H := H.below hb
                clear hb
                try clear C
                try simp only [World.size_alloc, List.nil_append, List.cons_append, List.append_assoc] at H
                try clear w14
                have C := H.cells
                try simp only [cellsOf, cellsM, apartOf, apartM, and_true] at C
                dsimp only
                go_wp2_with fail
                go_roundw
                case rel => exact ⟨id + 1, by go_num, by omega, by omega, HS.less H (by repeat (first | exact .slnil | refine .cons_cons _ ?_ | refine .cons _ ?_))⟩
                case measure => simp [intOf]; omega
            · obtain rfl : id = 8 := by omega
              skip
              go_wp2_with fail
              go_roundw
              case rel => exact ⟨k + 1, l, s, c, qs, F, f, es, ck, M, FW, by go_num, by omega, rfl, HQL.out, HG, HWN, HM, HF, H⟩
              case measure => simp [intOf]; omega
      · obtain rfl : k = 20 := by omega
        skip
        go_wp2_with fail
        refine (HAW.out _).mono ?_
        rintro _ w16 ⟨rfl, hb⟩
        replace H := H.below hb
        clear hb
        try clear C
        try simp only [World.size_alloc, List.nil_append, List.cons_append, List.append_assoc] at H
        try clear wr
        have C := H.cells
        try simp only [cellsOf, cellsM, apartOf, apartM, and_true] at C
        dsimp only
        go_wp2_with fail
        go_ret
        exact ⟨rfl, H.done⟩
  · rw [decide_eq_false h400] at hli
    have HLI := Lib.hid hli
    clear hli
    go_enter Try.func4, Try.ntmps4
    have H := HS.start NoD w
    go_wp2_with fail
    refine (gives_of34 (HLI.out _)).mono ?_
    rintro _ w1 ⟨rfl, hb⟩
    replace H := H.below hb
    clear hb
    try clear C
    try simp only [World.size_alloc, List.nil_append, List.cons_append, List.append_assoc] at H
    have C := H.cells
    try simp only [cellsOf, cellsM, apartOf, apartM, and_true] at C
    dsimp only
    go_wp2_with fail
    refine (HAW.out _).mono ?_
    rintro _ w2 ⟨rfl, hb⟩
    replace H := H.below hb
    clear hb
    try clear C
    try simp only [World.size_alloc, List.nil_append, List.cons_append, List.append_assoc] at H
    try clear w1
    have C := H.cells
    try simp only [cellsOf, cellsM, apartOf, apartM, and_true] at C
    dsimp only
    go_wp2_with fail
    go_ret
    exact ⟨rfl, H.done⟩
end Go.Proofs.Ytheccfiidollpaa
