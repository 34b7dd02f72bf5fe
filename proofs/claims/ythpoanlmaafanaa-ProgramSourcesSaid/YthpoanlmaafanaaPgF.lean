/- program.state.fork: the map of pages behind a fork. -/
import Derived.Test.YthpoanlmaafanaaPgB
namespace Go.Proofs.Ythpoanlmaafanaa
set_option linter.unusedSimpArgs false
set_option linter.unusedVariables false
open Go.RowKit
set_option maxRecDepth 100000
attribute [local go_sem] run_mkMapG
attribute [local irreducible] wpX wpF Calls

theorem getG_some {M : List ((Int × Int) × Value)} {f : PgF} (hn : (M.map (·.1)).Nodup) (hf : ∀ x, getG x M = (f x).map vQ) {x : Int × Int} {v : Value} (h : (x, v) ∈ M) : ∃ q, f x = some q ∧ v = vQ q := by
  have h1 := (getG_mem hn).2 h
  rw [hf] at h1
  cases hq : f x with
  | none => rw [hq] at h1; cases h1
  | some q => rw [hq] at h1; exact ⟨q, rfl, by injection h1 with h1; exact h1.symm⟩
theorem unhid {P : Prop} (h : Hid P) : P := h.out
/-- What the copies hold while they are made. -/
structure Cop (p o : Int) (f c : PgF) : Prop where
  only : ∀ y q, c y = some q → y.1 = o ∧ f (p, y.2) = some q
theorem kU_inj {x y : Int × Int} (h : kU x = kU y) : x = y := by
  obtain ⟨a, b⟩ := x
  obtain ⟨c, d⟩ := y
  simp [kU] at h
  rw [h.1, h.2]
theorem MapG.noKey {es : Array MapEntry} {clock : Nat} {M : List ((Int × Int) × Value)} (h : MapG kU es clock M) {x : Int × Int} (hx : getG x M = none) : ∀ e ∈ es.toList, e.key ≠ kU x := fun e he hk => by
  have hp : (e.key, e.val) ∈ M.map fun p => (kU p.1, p.2) := by rw [← h.kv]; exact List.mem_map.2 ⟨e, he, rfl⟩
  obtain ⟨p, hpM, hpe⟩ := List.mem_map.1 hp
  injection hpe with h1 h2
  have h3 := kU_inj (h1.trans hk)
  have : getG x M = some p.2 := (getG_mem h.keys).2 (by rw [← h3]; exact hpM)
  rw [hx] at this
  cases this
def leftAt (b r : Nat) (w : World) : Nat := match w.heap[b]? with | some (.map es _) => itLeftG es r w | _ => 0
theorem leftAt_of {b r : Nat} {w : World} {es : Array MapEntry} {c k c2 : Nat} {m : Option Nat} {seen : Array Nat} (h : w.heap[b]? = some (.map es c)) (hr : w.heap[r]? = some (.mapIter m k seen c2)) : leftAt b r w = leftG es seen := by
  unfold leftAt
  rw [h]
  exact itLeftG_of hr
set_option maxHeartbeats 8000000 in
theorem fork_any {b : Nat} {f : PgF} (x : Ox) (hne : x.o ≠ x.p) (w : World) (hm : MapAt w b f) :
    Calls Try.prog 32 #[.map (some b), vOx x] w (fun e w' => e = .returned (.tuple #[]) ∧ MapAt w' b (forkF x.p x.o f) ∧ Chg b w w') := by
  obtain ⟨es, clock, M, hb, hM, hf⟩ := hm
  obtain ⟨xk, xp, xg, xw, xo, sa, n, c⟩ := x
  dsimp only at hne ⊢
  have HM := Lib.hid hM
  have HF := Lib.hid hf
  have HN := Lib.hid hne
  clear hM hf hne
  have HT : Try.prog.underlying 51 = some (.map 40 54) := by kernel_rfl
  show Calls Try.prog 32 #[.map (some b), .agg #[.int .i64 xk, .int .i64 xp, .int .i64 xg, .int .i64 xw, .int .i64 xo, .slice sa n c]] w _
  go_enter Try.func32, Try.ntmps32
  have H := HS.start NoD w
  clear H
  have H := HS.startObj hb
  clear hb
  have C := H.cells
  simp only [cellsOf, cellsM, apartOf, apartM, and_true] at C
  go_upto_region 1 with fail
  generalize hwb : w.alloc _ = w1
  replace H := HS.eqW hwb H.alloc
  try simp only [World.size_alloc, List.nil_append, List.cons_append, List.append_assoc] at H
  clear hwb
  generalize w.heap.size = bX at H ⊢
  try clear C
  have C := H.cells
  try simp only [cellsOf, cellsM, apartOf, apartM, and_true] at C
  go_upto_region 2 with fail
  generalize hwb : World.alloc _ _ = w2
  replace H := HS.eqW hwb H.allocObj
  clear hwb
  simp only [List.nil_append, List.cons_append] at H
  generalize w1.heap.size = bC at H ⊢
  clear C
  skip
  try clear C
  try simp only [World.size_alloc, List.nil_append, List.cons_append, List.append_assoc] at H
  have C := H.cells
  try simp only [cellsOf, cellsM, apartOf, apartM, and_true] at C
  go_upto_region 3 with (at_range; refine wpList_range_G rfl (.tmp 11) 51 rfl HT H 0 rfl rfl ?_; clear H C; intro H)
  try simp only [List.nil_append, List.cons_append] at H
  generalize hwb : w2.alloc _ = w3 at H ⊢
  clear hwb
  generalize w2.heap.size = r at H ⊢
  clear w2
  go_frame
  go_loopw [5, 6] (fun _ _ wr => ∃ (seen : Array Nat) (cs : Array MapEntry) (ck : Nat) (M2 : List ((Int × Int) × Value)) (cf : PgF), Hid (MapG kU cs ck M2) ∧ Hid (∀ x, getG x M2 = (cf x).map vQ) ∧ Hid (Cop xp xo f cf) ∧ Hid (SeenG kU (fun x => x.1 = xp → cf (xo, x.2) = f x) es seen) ∧ HS (OneD b) w [.obj b (.map es clock), .blk bX #[.int .i64 xk, .int .i64 xp, .int .i64 xg, .int .i64 xw, .int .i64 xo, .slice sa n c] 38, .obj bC (.map cs ck), .obj r (.mapIter (some b) clock seen clock)] wr) (fun _ _ wr => itLeftG es r wr)
  case atStart => exact ⟨#[], #[], 0, [], fun _ => none, MapG.nil kU, fun _ => rfl, ⟨fun y q h => by cases h⟩, SeenG.nil _ _, H⟩
  case round =>
    clear H
    obtain ⟨seen, cs, ck, M2, cf, HM2, HF2, HCO, HSE, H⟩ := hrel
    skip
    try clear C
    try simp only [World.size_alloc, List.nil_append, List.cons_append, List.append_assoc] at H
    have C := H.cells
    try simp only [cellsOf, cellsM, apartOf, apartM, and_true] at C
    go_upto_region 4 with (at_next; refine wpList_next_G rfl (.tmp 12) rfl H 0 3 HM.out rfl rfl rfl (by decide) (Nat.le_refl _) (fun hdone => unhid ?_) (fun x v e wz he hke hve hmM hltn HZ hen => ?_))
    · have HALL := Lib.hid (HSE.out.all HM.out hdone)
      clear hdone HSE
      have HCF := Lib.hid (show ∀ y, cf y = if y.1 = xo then f (xp, y.2) else none from fun y => by
        by_cases hy : y.1 = xo
        · rw [if_pos hy]
          obtain ⟨y1, y2⟩ := y
          dsimp only at hy ⊢
          subst hy
          cases hq : f (xp, y2) with
          | none =>
            cases hc : cf (y1, y2) with
            | none => rfl
            | some q => have := (HCO.out.only _ _ hc).2; dsimp only at this; rw [hq] at this; cases this
          | some q =>
            have hm := (getG_mem HM.out.keys).1 (show getG (xp, y2) M = some (vQ q) by rw [HF.out, hq]; rfl)
            have := HALL.out _ _ hm rfl
            rw [this, hq]
        · rw [if_neg hy]
          cases hc : cf y with
          | none => rfl
          | some q => exact absurd (HCO.out.only _ _ hc).1 hy)
      clear HCO HALL
      have H9 := HS.less (L' := [.obj b (.map es clock), .blk bX #[.int .i64 xk, .int .i64 xp, .int .i64 xg, .int .i64 xw, .int .i64 xo, .slice sa n c] 38, .obj bC (.map cs ck)]) H (by repeat (first | exact .slnil | refine .cons_cons _ ?_ | refine .cons _ ?_))
      clear H C
      have H := H9
      clear H9
      refine Lib.hid ?_
      go_upto_region 8 with (at_range; refine wpList_range_G rfl (.tmp 30) 51 rfl HT H 0 rfl rfl ?_; clear H; intro H)
      try simp only [List.nil_append, List.cons_append] at H
      generalize hwb : wr.alloc _ = w4 at H ⊢
      clear hwb
      generalize wr.heap.size = r2 at H ⊢
      go_frame
      go_loopw [7] (fun _ wr => ∃ (seen : Array Nat) (es2 : Array MapEntry) (M3 : List ((Int × Int) × Value)), Hid (MapG kU es2 clock M3) ∧ Hid (∀ x, x.1 ≠ xo → getG x M3 = getG x M) ∧ Hid (∀ x v, getG x M3 = some v → getG x M = some v) ∧ Hid (SeenG kU (fun x => x.1 ≠ xo) es2 seen) ∧ HS (OneD b) w [.obj b (.map es2 clock), .blk bX #[.int .i64 xk, .int .i64 xp, .int .i64 xg, .int .i64 xw, .int .i64 xo, .slice sa n c] 38, .obj bC (.map cs ck), .obj r2 (.mapIter (some b) clock seen clock)] wr) (fun _ wr => leftAt b r2 wr)
      case atStart => exact ⟨#[], es, M, HM, fun _ _ => rfl, fun _ _ h => h, SeenG.nil _ _, H⟩
      case round =>
        clear H
        obtain ⟨seen2, es2, M3, HM3, HA3, HB3, HSE, H⟩ := hrel
        skip
        try clear C
        try simp only [World.size_alloc, List.nil_append, List.cons_append, List.append_assoc] at H
        have C := H.cells
        try simp only [cellsOf, cellsM, apartOf, apartM, and_true] at C
        go_upto_region 9 with (at_next; refine wpList_next_G rfl (.tmp 31) rfl H 0 3 HM3.out rfl rfl rfl (by decide) (Nat.le_refl _) (fun hdone => unhid ?_) (fun x v e wz he hke hve hmM hltn HZ hen => ?_))
        · have HALL := Lib.hid (HSE.out.all HM3.out hdone)
          clear hdone HSE
          have HG3 := Lib.hid (show ∀ x, getG x M3 = if x.1 = xo then none else getG x M from fun x => by
            by_cases hx : x.1 = xo
            · rw [if_pos hx]
              cases hg : getG x M3 with
              | none => rfl
              | some v => exact absurd hx (HALL.out _ _ ((getG_mem HM3.out.keys).1 hg))
            · rw [if_neg hx]; exact HA3.out x hx)
          clear HALL HA3 HB3
          have H9 := HS.less (L' := [.obj b (.map es2 clock), .blk bX #[.int .i64 xk, .int .i64 xp, .int .i64 xg, .int .i64 xw, .int .i64 xo, .slice sa n c] 38, .obj bC (.map cs ck)]) H (by repeat (first | exact .slnil | refine .cons_cons _ ?_ | refine .cons _ ?_))
          clear H C
          have H := H9
          clear H9
          refine Lib.hid ?_
          go_upto_region 13 with (at_range; refine wpList_range_G rfl (.tmp 43) 51 rfl HT H 2 rfl rfl ?_; clear H; intro H)
          try simp only [List.nil_append, List.cons_append] at H
          generalize hwb : wr.alloc _ = w5 at H ⊢
          clear hwb
          generalize wr.heap.size = r3 at H ⊢
          go_frame
          go_loopw [8, 9] (fun _ _ wr => ∃ (seen : Array Nat) (es4 : Array MapEntry) (c4 : Nat) (M4 : List ((Int × Int) × Value)), Hid (MapG kU es4 c4 M4) ∧ Hid (∀ x, cf x = none → getG x M4 = getG x M3) ∧ Hid (SeenG kU (fun x => getG x M4 = (cf x).map vQ) cs seen) ∧ HS (OneD b) w [.obj b (.map es4 c4), .blk bX #[.int .i64 xk, .int .i64 xp, .int .i64 xg, .int .i64 xw, .int .i64 xo, .slice sa n c] 38, .obj bC (.map cs ck), .obj r3 (.mapIter (some bC) ck seen ck)] wr) (fun _ _ wr => itLeftG cs r3 wr)
          case atStart => exact ⟨#[], es2, clock, M3, HM3, fun _ _ => rfl, SeenG.nil _ _, H⟩
          case round =>
            clear H
            obtain ⟨seen3, es4, c4, M4, HM4, HA4, HSE, H⟩ := hrel
            skip
            try clear C
            try simp only [World.size_alloc, List.nil_append, List.cons_append, List.append_assoc] at H
            have C := H.cells
            try simp only [cellsOf, cellsM, apartOf, apartM, and_true] at C
            go_upto_region 14 with (at_next; refine wpList_next_G rfl (.tmp 44) rfl H 2 3 HM2.out rfl rfl rfl (by decide) (Nat.le_refl _) (fun hdone => unhid ?_) (fun x v e wz he hke hve hmM hltn HZ hen => ?_))
            · have HALL := Lib.hid (HSE.out.all HM2.out hdone)
              clear hdone HSE
              refine Lib.hid ?_
              go_wp2_with fail
              go_end0
              refine ⟨rfl, ⟨es4, c4, M4, H.at 0 rfl, HM4.out, fun y => ?_⟩, H.doneDice⟩
              unfold forkF
              cases hc : cf y with
              | some q =>
                have h1 := HALL.out y (vQ q) ((getG_mem HM2.out.keys).1 (by rw [HF2.out, hc]; rfl))
                have h2 := HCF.out y
                rw [hc] at h2 h1
                rw [h1]
                by_cases hy : y.1 = xo
                · rw [if_pos hy] at h2 ⊢; rw [← h2]
                · rw [if_neg hy] at h2; cases h2
              | none =>
                have h2 := HCF.out y
                rw [hc] at h2
                rw [HA4.out y hc, HG3.out]
                by_cases hy : y.1 = xo
                · rw [if_pos hy] at h2 ⊢; rw [if_pos hy, ← h2]; rfl
                · rw [if_neg hy, if_neg hy, HF.out]
            · have HOLD := Lib.hid (itLeftG_of (es := cs) (H.at 3 rfl))
              clear H
              have H := HZ
              clear HZ
              simp only [List.set_cons_succ, List.set_cons_zero] at H
              obtain ⟨q, hfq, rfl⟩ := getG_some HM2.out.keys HF2.out hmM
              obtain ⟨ya, yb⟩ := x
              obtain ⟨q0, q1, q2, q3⟩ := q
              have HFQ := Lib.hid hfq
              have HEN := Lib.hid hen
              clear hmM hfq hen
              skip
              try clear C
              try simp only [World.size_alloc, List.nil_append, List.cons_append, List.append_assoc] at H
              have C := H.cells
              try simp only [cellsOf, cellsM, apartOf, apartM, and_true] at C
              have HEK := Lib.hid (show ∀ x, e.key = kU x → x = (ya, yb) from fun x hx => (kU_inj (hke.symm.trans hx)).symm)
              have HS2 := Lib.hid (fun (p' : Int × Int → Prop) (h9 : SeenG kU p' cs seen3) (h8 : ∀ x, e.key = kU x → p' x) => h9.push HM2.out he h8)
              clear hke he
              go_step
              refine wpList_entry_G rfl (.tmp 44) rfl rfl HEN.out ?_
              clear HEN
              dsimp only [kU, vQ]
              go_upto_region 15 with fail
              generalize hwb : (wz.alloc _).alloc _ = w2
              replace H := HS.eqW hwb H.alloc.alloc
              try simp only [World.size_alloc, List.nil_append, List.cons_append, List.append_assoc] at H
              clear hwb
              generalize wz.heap.size + 1 = b6 at H ⊢
              generalize wz.heap.size = b5 at H ⊢
              try clear C
              try clear wz
              have C := H.cells
              try simp only [cellsOf, cellsM, apartOf, apartM, and_true] at C
              go_wp2_with (at_mapUpdate; refine wpList_update_G rfl (.tmp 50) (.tmp 51) (.tmp 52) rfl HT keyU H 0 rfl HM4.out rfl (n := (ya, yb)) (u := vQ ⟨q0, q1, q2, q3⟩) rfl rfl (fun wy es' c' hM' HZ => ?_); clear H C)
              simp only [List.set_cons_succ, List.set_cons_zero] at HZ
              go_frame
              go_roundw
              case rel =>
                refine ⟨seen3.push e.born, es', c', _, hM', (show Hid _ from fun x hx => ?_), (show Hid _ from HS2.out _ (HSE.out.imp fun x hx => ?_) fun x hx => ?_), HS.less HZ (by repeat (first | exact .slnil | refine .cons_cons _ ?_ | refine .cons _ ?_))⟩
                · rw [getG_put, if_neg (fun e9 => by subst e9; rw [hx] at HFQ; exact absurd HFQ.out (by simp)), HA4.out x hx]
                · rw [getG_put]
                  by_cases e9 : x = (ya, yb)
                  · rw [if_pos e9, e9, HFQ.out]; rfl
                  · rw [if_neg e9]; exact hx
                · have e9 := HEK.out x hx
                  rw [getG_put, if_pos e9, e9, HFQ.out]; rfl
              case measure => rw [itLeftG_of (HZ.at 3 rfl), HOLD.out]; exact hltn
        · have HOLD := Lib.hid (leftAt_of (H.at 0 rfl) (H.at 3 rfl))
          clear H C
          have H := HZ
          clear HZ
          simp only [List.set_cons_succ, List.set_cons_zero] at H
          obtain ⟨q, hfq, rfl⟩ := getG_some HM.out.keys HF.out ((getG_mem HM.out.keys).1 (HB3.out _ _ ((getG_mem HM3.out.keys).2 hmM)))
          obtain ⟨ya, yb⟩ := x
          have HEN := Lib.hid hen
          clear hmM hfq hen
          skip
          try clear C
          try simp only [World.size_alloc, List.nil_append, List.cons_append, List.append_assoc] at H
          have C := H.cells
          try simp only [cellsOf, cellsM, apartOf, apartM, and_true] at C
          have HEK := Lib.hid (show ∀ x, e.key = kU x → x = (ya, yb) from fun x hx => (kU_inj (hke.symm.trans hx)).symm)
          have HS2 := Lib.hid (fun (p' : Int × Int → Prop) (h9 : SeenG kU p' es2 seen2) (h8 : ∀ x, e.key = kU x → p' x) => h9.push HM3.out he h8)
          have HKE := Lib.hid hke
          have HIN := Lib.hid he
          clear hke he
          go_step
          refine wpList_entry_G rfl (.tmp 31) rfl rfl HEN.out ?_
          clear HEN
          dsimp only [kU]
          go_upto_region 10 with fail
          generalize hwb : wz.alloc _ = w3
          replace H := HS.eqW hwb H.alloc
          try simp only [World.size_alloc, List.nil_append, List.cons_append, List.append_assoc] at H
          clear hwb
          generalize wz.heap.size = b7 at H ⊢
          try clear C
          try clear wz
          have C := H.cells
          try simp only [cellsOf, cellsM, apartOf, apartM, and_true] at C
          by_cases hya : ya = xo
          · subst hya
            go_wp2_with (at_delete; refine wpList_delete_G rfl (.tmp 41) (.tmp 42) rfl HT keyU H 0 rfl HM3.out rfl (n := (ya, yb)) rfl (fun wy es' hM' hsub HZ => ?_); clear H C)
            simp only [List.set_cons_succ, List.set_cons_zero] at HZ
            go_frame
            go_roundw
            case rel =>
              refine ⟨seen2.push e.born, es', _, hM', (show Hid _ from fun x hx => ?_), (show Hid _ from fun x v hx => ?_), (show Hid _ from fun x' hx' hc y hy => ?_), HS.less HZ (by repeat (first | exact .slnil | refine .cons_cons _ ?_ | refine .cons _ ?_))⟩
              · rw [getG_del _ _ _ HM3.out.keys, if_neg (fun e9 => hx (by rw [e9]))]; exact HA3.out x hx
              · rw [getG_del _ _ _ HM3.out.keys] at hx
                split at hx
                · cases hx
                · exact HB3.out x v hx
              · rw [Array.contains_push, Bool.or_eq_true] at hc
                have hno := hM'.noKey (x := (ya, yb)) (by rw [getG_del _ _ _ HM3.out.keys, if_pos rfl])
                have hold := fun h => HSE.out x' (hsub.subset hx') h y hy
                rcases hc with hc | hc
                all_goals first
                  | exact hold hc
                  | (have hee : x' = e := born_injG HM3.out.nodup (hsub.subset hx') HIN.out (by simpa using hc)
                     subst hee
                     exact absurd HKE.out (hno _ hx'))
            case measure =>
              rw [leftAt_of (HZ.at 0 rfl) (HZ.at 3 rfl), HOLD.out]
              exact Nat.lt_of_le_of_lt (leftG_sub hsub _) hltn
          · have hyb : (ya == xo) = false := beq_eq_false_iff_ne.2 hya
            go_wp2_with fail
            go_roundw
            case rel =>
              exact ⟨seen2.push e.born, es2, M3, HM3, HA3, HB3, (show Hid _ from HS2.out _ HSE.out fun x hx => by rw [HEK.out x hx]; exact hya), HS.less H (by repeat (first | exact .slnil | refine .cons_cons _ ?_ | refine .cons _ ?_))⟩
            case measure =>
              rw [leftAt_of (H.at 0 rfl) (H.at 3 rfl), HOLD.out]
              exact hltn
    · have HOLD := Lib.hid (itLeftG_of (es := es) (H.at 3 rfl))
      clear H C
      have H := HZ
      clear HZ
      simp only [List.set_cons_succ, List.set_cons_zero] at H
      obtain ⟨q, hfq, rfl⟩ := getG_some HM.out.keys HF.out hmM
      obtain ⟨ya, yb⟩ := x
      obtain ⟨q0, q1, q2, q3⟩ := q
      have HFQ := Lib.hid hfq
      have HEN := Lib.hid hen
      clear hmM hfq hen
      skip
      try clear C
      try simp only [World.size_alloc, List.nil_append, List.cons_append, List.append_assoc] at H
      have C := H.cells
      try simp only [cellsOf, cellsM, apartOf, apartM, and_true] at C
      have HS2 := Lib.hid (fun (p' : Int × Int → Prop) (h9 : SeenG kU p' es seen) (h8 : ∀ x, e.key = kU x → p' x) => h9.push HM.out he h8)
      have HEK := Lib.hid (show ∀ x, e.key = kU x → x = (ya, yb) from fun x hx => by
        have := hke.symm.trans hx
        obtain ⟨x1, x2⟩ := x
        simp [kU] at this
        rw [this.1, this.2])
      clear hke he
      go_step
      refine wpList_entry_G rfl (.tmp 12) rfl rfl HEN.out ?_
      clear HEN
      dsimp only [kU, vQ]
      go_upto_region 5 with fail
      generalize hwb : (wz.alloc _).alloc _ = w4
      replace H := HS.eqW hwb H.alloc.alloc
      try simp only [World.size_alloc, List.nil_append, List.cons_append, List.append_assoc] at H
      clear hwb
      generalize wz.heap.size + 1 = b6 at H ⊢
      generalize wz.heap.size = b5 at H ⊢
      try clear C
      try clear wz
      have C := H.cells
      try simp only [cellsOf, cellsM, apartOf, apartM, and_true] at C
      by_cases hya : ya = xp
      · subst hya
        go_wp2_with (at_mapUpdate; refine wpList_update_G rfl (.tmp 23) (.tmp 28) (.tmp 29) rfl HT keyU H 2 rfl HM2.out rfl (n := (xo, yb)) (u := vQ ⟨q0, q1, q2, q3⟩) rfl rfl (fun wy es' c' hM' HZ => ?_); clear H C)
        simp only [List.set_cons_succ, List.set_cons_zero] at HZ
        go_frame
        go_roundw
        case rel =>
          refine ⟨seen.push e.born, es', c', _, fun y => if y = (xo, yb) then some ⟨q0, q1, q2, q3⟩ else cf y, hM', (show Hid _ from fun x => ?_), (show Hid _ from ⟨fun y q hy => ?_⟩), (show Hid _ from HS2.out _ (HSE.out.imp fun x hx h9 => ?_) fun x hx h9 => ?_), HS.less HZ (by repeat (first | exact .slnil | refine .cons_cons _ ?_ | refine .cons _ ?_))⟩
          · rw [getG_put]
            show _ = Option.map vQ (if x = (xo, yb) then some ⟨q0, q1, q2, q3⟩ else cf x)
            by_cases e9 : x = (xo, yb)
            · rw [if_pos e9, if_pos e9]; rfl
            · rw [if_neg e9, if_neg e9]; exact HF2.out x
          · try dsimp only at hy
            by_cases e9 : y = (xo, yb)
            · rw [if_pos e9] at hy
              subst e9
              exact ⟨rfl, HFQ.out.trans hy⟩
            · rw [if_neg e9] at hy
              exact HCO.out.only y q hy
          · dsimp only
            by_cases e9 : x.2 = yb
            · rw [if_pos (by rw [e9]), ← HFQ.out, ← h9, ← e9]
            · rw [if_neg (fun e8 => e9 (Prod.mk.inj e8).2)]
              exact hx h9
          · have e9 := HEK.out x hx
            subst e9
            dsimp only
            rw [if_pos rfl, HFQ.out]
        case measure => rw [itLeftG_of (HZ.at 3 rfl), HOLD.out]; exact hltn
      · have hyb : (ya == xp) = false := beq_eq_false_iff_ne.2 hya
        go_wp2_with fail
        go_roundw
        case rel =>
          exact ⟨seen.push e.born, cs, ck, M2, cf, HM2, HF2, HCO, (show Hid _ from HS2.out _ HSE.out fun x hx h9 => by rw [HEK.out x hx] at h9; exact absurd h9 hya), HS.less H (by repeat (first | exact .slnil | refine .cons_cons _ ?_ | refine .cons _ ?_))⟩
        case measure => rw [itLeftG_of (H.at 3 rfl), HOLD.out]; exact hltn
end Go.Proofs.Ythpoanlmaafanaa
