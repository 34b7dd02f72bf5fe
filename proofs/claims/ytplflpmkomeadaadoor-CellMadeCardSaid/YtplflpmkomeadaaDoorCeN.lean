/- made.Fault: what it makes is valid; made.Symbols, made.Code: valid codes. -/
import Derived.Test.YtplflpmkomeadaaDoorCeF
import Derived.Test.YtplflpmkomeadaaDoorMade
namespace Go.Proofs.YtplflpmkomeadaaDoor
set_option linter.unusedSimpArgs false
set_option linter.unusedVariables false
open Go.RowKit
set_option maxRecDepth 100000
attribute [local go_sem] lt_more ne_more ne_more'
attribute [local irreducible] wpX wpF

def FaultVPost (a0 a1 a2 a3 a4 a5 chips : Int) (hard : Bool) (B b : Nat) (w : World) (e : Ending) (w' : World) : Prop :=
  ∃ f : Fa, e = .returned (cfV f) ∧ f.hd = hard ∧ vfAll a0 a1 a2 a3 a4 a5 chips f.k f.p0 f.p1 f.p2 f.p3 f.p4 f.p5 f.ch f.ms f.vl f.hd = true ∧ Dice B w' b ∧ Chg b w w'
theorem andNot_zero (m : Int) : bits .andNot .u8 0 m = 0 := by
  show IntKind.u8.wrap ((BitVec.ofInt 8 0 &&& ~~~ BitVec.ofInt 8 m).toNat : Int) = 0
  rw [show BitVec.ofInt 8 0 = 0#8 from rfl, BitVec.zero_and]; rfl
theorem andNot_and (x m : Int) : bits .andNot .u8 (bits .and .u8 x m) m = 0 := by
  show IntKind.u8.wrap ((BitVec.ofInt 8 (IntKind.u8.wrap ((BitVec.ofInt 8 x &&& BitVec.ofInt 8 m).toNat : Int)) &&& ~~~ BitVec.ofInt 8 m).toNat : Int) = 0
  have h1 := wrap_byte (BitVec.ofInt 8 x &&& BitVec.ofInt 8 m)
  rw [h1, ofInt_nat8, BitVec.and_assoc, BitVec.and_not_self, show (0 : BitVec 8) = 0#8 from rfl, BitVec.and_zero]; rfl
theorem pv_zero {a0 a1 a2 a3 a4 a5 p0 p1 p2 p3 p4 p5 q2 q3 q4 q5 : Int} (h : PV a0 a1 a2 a3 a4 a5 p0 p1 p2 p3 p4 p5) (h2 : q2 = p2 ∨ q2 = 0) (h3 : q3 = p3 ∨ q3 = 0) (h4 : q4 = p4 ∨ q4 = 0) (h5 : q5 = p5 ∨ q5 = 0) : PV a0 a1 a2 a3 a4 a5 p0 p1 q2 q3 q4 q5 := by
  have z : ∀ a : Int, (0 : Int) ≤ 0 ∧ (0 : Int) < 2 ^ a.toNat := fun a => ⟨Int.le_refl _, by have := pw_pos a; omega⟩
  obtain ⟨x0, x1, x2, x3, x4, x5⟩ := h
  refine ⟨x0, x1, ?_, ?_, ?_, ?_⟩
  · rcases h2 with rfl | rfl; exact x2; exact z _
  · rcases h3 with rfl | rfl; exact x3; exact z _
  · rcases h4 with rfl | rfl; exact x4; exact z _
  · rcases h5 with rfl | rfl; exact x5; exact z _
theorem vf_yes {a0 a1 a2 a3 a4 a5 n k p0 p1 p2 p3 p4 p5 ch ms vl : Int} {hd : Bool} (hs : SV a0 a1 a2 a3 a4 a5) (hk : 1 ≤ k ∧ k ≤ 6) (hp : PV a0 a1 a2 a3 a4 a5 p0 p1 p2 p3 p4 p5) (hu : Unnamed k p0 p1 p2 p3 p4 p5) (hc : 0 ≤ ch ∧ ch < n) (hm : 1 ≤ ms) (hv : bits .andNot .u8 vl ms = 0 ∧ (hd = false → vl = 0)) : vfAll a0 a1 a2 a3 a4 a5 n k p0 p1 p2 p3 p4 p5 ch ms vl hd = true := by
  unfold vfAll vfB
  rw [decide_eq_true hk, decide_eq_true (show SV a0 a1 a2 a3 a4 a5 ∧ PV a0 a1 a2 a3 a4 a5 p0 p1 p2 p3 p4 p5 from ⟨hs, hp⟩), decide_eq_true hu, decide_eq_true hc.1, decide_eq_true hc.2, hv.1]
  have h1 : (ms != 0) = true := bne_iff_ne.2 (by omega)
  rw [h1]
  cases hd
  · rw [hv.2 rfl]; rfl
  · rfl
set_option maxHeartbeats 8000000 in
theorem faultv_any {a0 a1 a2 a3 a4 a5 : Int} (h : SV a0 a1 a2 a3 a4 a5) (chips : Int) (hc1 : 1 ≤ chips) (hc : chips ≤ 1099511627776) (hard : Bool) (B b : Nat) (w : World) (hd : Dice B w b) (hB : B ≤ w.heap.size) :
    Calls Tryd.prog 13 #[.pointer (some ⟨b, 0, none⟩), v6 a0 a1 a2 a3 a4 a5, .int .i64 chips, .bool hard] w (FaultVPost a0 a1 a2 a3 a4 a5 chips hard B b w) := by
  have HS' := Lib.hid h
  have HC := Lib.hid hc
  have HC1 := Lib.hid hc1
  clear h hc hc1
  go_enter Tryd.func13, Tryd.ntmps13
  have H := HS.startDice hd hB
  have C := H.cells
  try simp only [cellsOf, cellsM, apartOf, apartM, and_true] at C
  clear hd
  go_wp2_with fail
  refine wp_region_fH (by kernel_rfl) [0, 1, 2, 3, 4, 5, 6, 7, 8, 9, 10, 11, 12, 13, 14, 15, 16] (by kernel_rfl) (by kernel_rfl) (by kernel_rfl) (OneD b) (H.alloc.alloc) ?_
  clear H; intro w1 H hz0
  try clear C
  try simp only [World.size_alloc, List.nil_append, List.cons_append, List.append_assoc] at H hz0 ⊢
  generalize w.heap.size + 1 = bR at H hz0 ⊢
  generalize w.heap.size = bS at H hz0 ⊢
  clear hz0
  have C := H.cells
  try simp only [cellsOf, cellsM, apartOf, apartM, and_true] at C
  simp only [List.filterMap_cons, List.filterMap_nil, List.getElem?_toArray, List.getElem?_cons_zero, List.getElem?_cons_succ]
  (refine wpF_free rfl rfl rfl (fun _ _ => ?_); go_step; go_step)
  (refine wpF_call rfl rfl (fun wc hc _ _ => ?_); go_step; refine (next_any 6 (by omega) B b _ (hc.inv.at 0 rfl)).mono ?_; rintro _ wd ⟨v0, rfl, hv0, hd, hg⟩; dsimp only; go_step; refine ⟨hc.chgS hg rfl (Dice.lt (H.at 0 rfl)) (hc.inv.diceAt 0 rfl hg hd), hc.chgK hg (Dice.lt (H.at 0 rfl)), ?_⟩; clear hg hd hc wc wd)
  (refine wpF_free rfl rfl rfl (fun _ _ => ?_); go_step; go_step)
  (refine wpF_free rfl rfl rfl (fun _ _ => ?_); go_step; go_step)
  (refine wpF_load rfl rfl rfl (by simp [Stay, OneD, NoD, *]) (by simp [*]) (fun _ _ => ?_); go_step; go_step)
  (refine wpF_call rfl rfl (fun wc hc _ _ => ?_); go_step; refine (place_any HS'.out B b _ (hc.inv.at 0 rfl)).mono ?_; rintro _ wd ⟨p0, p1, p2, p3, p4, p5, rfl, hp, hd, hg⟩; dsimp only; go_step; refine ⟨hc.chgS hg rfl (Dice.lt (H.at 0 rfl)) (hc.inv.diceAt 0 rfl hg hd), hc.chgK hg (Dice.lt (H.at 0 rfl)), ?_⟩; clear hg hd hc wc wd)
  (refine wpF_free rfl rfl rfl (fun _ _ => ?_); go_step; go_step)
  (refine wpF_free rfl rfl rfl (fun _ _ => ?_); go_step; go_step)
  (refine wpF_call rfl rfl (fun wc hc _ _ => ?_); go_step; refine (next_any chips HC.out B b _ (hc.inv.at 0 rfl)).mono ?_; rintro _ wd ⟨v2, rfl, hv2, hd, hg⟩; dsimp only; go_step; refine ⟨hc.chgS hg rfl (Dice.lt (H.at 0 rfl)) (hc.inv.diceAt 0 rfl hg hd), hc.chgK hg (Dice.lt (H.at 0 rfl)), ?_⟩; clear hg hd hc wc wd)
  (refine wpF_free rfl rfl rfl (fun _ _ => ?_); go_step; go_step)
  (refine wpF_call rfl rfl (fun wc hc _ _ => ?_); go_step; refine (next_any 255 (by omega) B b _ (hc.inv.at 0 rfl)).mono ?_; rintro _ wd ⟨v3, rfl, hv3, hd, hg⟩; dsimp only; go_step; refine ⟨hc.chgS hg rfl (Dice.lt (H.at 0 rfl)) (hc.inv.diceAt 0 rfl hg hd), hc.chgK hg (Dice.lt (H.at 0 rfl)), ?_⟩; clear hg hd hc wc wd)
  (refine wpF_free rfl rfl rfl (fun _ _ => ?_); go_step; go_step)
  (refine wpF_free rfl rfl rfl (fun _ _ => ?_); go_step; go_step)
  (refine wpF_free rfl rfl rfl (fun _ _ => ?_); go_step; go_step)
  (refine wpF_free rfl rfl rfl (fun _ _ => ?_); go_step; go_step)
  (refine wpF_float rfl rfl #[.int .i64 0, .int .i64 0, .int .i64 0, .int .i64 0, .int .i64 0, .int .i64 0, .int .i64 0, .int .i64 0, .int .u8 0, .int .u8 0, .bool false]   38 (fun w => by kernel_rfl) (fun bQ hbQ nbQ _ _ => ?_); go_simp; go_step)
  (refine wpF_store (cs := #[.int .i64 _, .int .i64 p0, .int .i64 p1, .int .i64 p2, .int .i64 p3, .int .i64 p4, .int .i64 p5, .int .i64 v2, .int .u8 _, .int .u8 0, .bool hard]) rfl rfl rfl rfl (Fl.at _ _ _) rfl (by kernel_rfl) rfl rfl (fun _ _ => ?_); go_simp; go_step)
  refine wpF_nil ?_
  intro w2 hC
  replace H := H.floats1 hC (Fl.at _ _ _)
  clear hC C hbQ nbQ w1
  try simp only [List.nil_append, List.cons_append, List.append_assoc] at H
  have C := H.cells
  try simp only [cellsOf, cellsM, apartOf, apartM, and_true] at C
  go_step
  go_step
  replace H := H.less (L' := [.dice _ _, .blk bR _ _, .blk bQ _ _]) (by repeat (first | exact .slnil | refine .cons_cons _ ?_ | refine .cons _ ?_))
  try clear C
  obtain ⟨k, hk⟩ : ∃ k, k = wrap64 (1 + v0) := ⟨_, rfl⟩
  obtain ⟨m, hm⟩ : ∃ m, m = wrap64 (1 + v3) % 256 := ⟨_, rfl⟩
  rw [← hk, ← hm] at H
  have hv01 := hv0.1
  have hv02 : v0 < 6 := hv0.lt (by decide)
  have hv31 := hv3.1
  have hv32 : v3 < 255 := hv3.lt (by decide)
  have hkw : wrap64 (1 + v0) = 1 + v0 := by unfold wrap64; omega
  have hmw : wrap64 (1 + v3) = 1 + v3 := by unfold wrap64; omega
  rw [hkw] at hk
  rw [hmw] at hm
  have hm1 : 1 ≤ m ∧ m < 256 := by omega
  have hk6 : k = 1 ∨ k = 2 ∨ k = 3 ∨ k = 4 ∨ k = 5 ∨ k = 6 := by omega
  have HK6 := Lib.hid hk6
  have HV2 := Lib.hid (show 0 ≤ v2 ∧ v2 < chips from ⟨hv2.1, hv2.lt (by have := HC1.out; omega)⟩)
  have HPV := Lib.hid hp
  clear hk hm hv0 hv2 hv3 hp hkw hmw hv01 hv02 hv31 hv32 hk6
  try clear C
  try simp only [World.size_alloc, List.nil_append, List.cons_append, List.append_assoc] at H
  have C := H.cells
  try simp only [cellsOf, cellsM, apartOf, apartM, and_true] at C
  go_step
  go_cut [] from 10 to 31 (fun wx => ∃ m : Int, Hid (1 ≤ m ∧ m < 256) ∧ HS (OneD b) w [.dice B b, .blk bR #[.int .i64 0, .int .i64 0, .int .i64 0, .int .i64 0, .int .i64 0, .int .i64 0, .int .i64 0, .int .i64 0, .int .u8 0, .int .u8 0, .bool false] 38, .blk bQ #[.int .i64 k, .int .i64 p0, .int .i64 p1, .int .i64 p2, .int .i64 p3, .int .i64 p4, .int .i64 p5, .int .i64 v2, .int .u8 m, .int .u8 0, .bool hard] 38] wx)
  case first =>
    go_wp2_with fail
    refine (one_any 2 (by omega) (by omega) B b _ (H.at 0 rfl)).mono ?_
    rintro _ w3 ⟨c, rfl, hd, hg⟩
    replace H := (H).diceAt 0 rfl hg hd
    clear hg hd
    try clear C
    try simp only [World.size_alloc, List.nil_append, List.cons_append, List.append_assoc] at H
    try clear w2
    have C := H.cells
    try simp only [cellsOf, cellsM, apartOf, apartM, and_true] at C
    dsimp only
    cases c
    all_goals go_wp2_with fail
    · go_meet
      case rel => exact ⟨m, hm1, H⟩
    · refine (next_any 8 (by omega) B b _ (H.at 0 rfl)).mono ?_
      rintro _ w4 ⟨v4, rfl, hv4, hd, hg⟩
      replace H := (H).diceAt 0 rfl hg hd
      clear hg hd
      try clear C
      try simp only [World.size_alloc, List.nil_append, List.cons_append, List.append_assoc] at H
      try clear w3
      have C := H.cells
      try simp only [cellsOf, cellsM, apartOf, apartM, and_true] at C
      dsimp only
      have hv41 := hv4.1
      have hv42 : v4 < 8 := hv4.lt (by decide)
      clear hv4
      have h8 : v4 = 0 ∨ v4 = 1 ∨ v4 = 2 ∨ v4 = 3 ∨ v4 = 4 ∨ v4 = 5 ∨ v4 = 6 ∨ v4 = 7 := by omega
      clear hv41 hv42
      rcases h8 with rfl | rfl | rfl | rfl | rfl | rfl | rfl | rfl
      all_goals
        go_wp2_with fail
        go_meet
        case rel =>
          refine ⟨_, ?_, H.setTo 2 rfl (by rfl)⟩
          exact Lib.hid (by decide)
  case rest =>
    clear H C m hm1
    obtain ⟨m, HM1, H⟩ := hcut
    skip
    try clear C
    try simp only [World.size_alloc, List.nil_append, List.cons_append, List.append_assoc] at H
    have C := H.cells
    try simp only [cellsOf, cellsM, apartOf, apartM, and_true] at C
    go_step
    go_step
    go_cut [] from 25 to 39 (fun wx => ∃ vl : Int, Hid (bits .andNot .u8 vl m = 0 ∧ (hard = false → vl = 0)) ∧ HS (OneD b) w [.dice B b, .blk bR #[.int .i64 0, .int .i64 0, .int .i64 0, .int .i64 0, .int .i64 0, .int .i64 0, .int .i64 0, .int .i64 0, .int .u8 0, .int .u8 0, .bool false] 38, .blk bQ #[.int .i64 k, .int .i64 p0, .int .i64 p1, .int .i64 p2, .int .i64 p3, .int .i64 p4, .int .i64 p5, .int .i64 v2, .int .u8 m, .int .u8 vl, .bool hard] 38] wx)
    case first =>
      cases hard
      all_goals go_wp2_with fail
      · go_meet
        case rel => exact ⟨0, (show Hid _ from ⟨andNot_zero m, fun _ => rfl⟩), H⟩
      · refine wp_region_sH (by kernel_rfl) (by kernel_rfl) (by kernel_rfl) (by kernel_rfl) (fun w => w.cell? ⟨bQ, 8, none⟩ = some (.int .u8 m)) (H) (fun w0 H => (Blk.cell (H.at 2 rfl) 8).trans rfl) ?_
        clear H; intro w5 h0 H hz0
        try clear C
        try simp only [World.size_alloc, List.nil_append, List.cons_append, List.append_assoc] at H hz0
        clear hz0
        try clear wc
        have C := H.cells
        try simp only [cellsOf, cellsM, apartOf, apartM, and_true] at C
        (refine wpX_free rfl rfl rfl (fun K hK => ?_); go_step; refine hK _ _ ?_; clear hK K)
        refine wpX_eff rfl rfl (fun _ _ => ?_)
        go_step
        refine (next_any 256 (by omega) B b _ (H.at 0 rfl)).mono ?_
        rintro _ w6 ⟨v5, rfl, hv5, hd, hg⟩
        replace H := H.diceAt 0 rfl hg hd
        clear hg hd
        try clear C
        have C := H.cells
        try simp only [cellsOf, cellsM, apartOf, apartM, and_true] at C
        try clear w5
        dsimp only
        go_step
        refine ⟨(Blk.cell (H.at 2 rfl) 8).trans rfl, ?_⟩
        (refine wpX_free rfl rfl rfl (fun K hK => ?_); go_step; refine hK _ _ ?_; clear hK K)
        (refine wpX_free rfl rfl rfl (fun K hK => ?_); go_step; refine hK _ _ ?_; clear hK K)
        (refine wpX_yield rfl rfl (.int .u8 m) (fun w (hw : w.cell? ⟨bQ, 8, none⟩ = some (.int .u8 m)) => by go_simp) ?_; go_simp)
        (refine wpX_free rfl rfl rfl (fun K hK => ?_); go_step; refine hK _ _ ?_; clear hK K)
        (refine wpX_free rfl rfl rfl (fun K hK => ?_); go_step; refine hK _ _ ?_; clear hK K)
        (refine wpX_eff rfl rfl (fun _ _ => ?_); go_step; go_step; refine ⟨?_, ?_⟩)
        · exact (Blk.cell ((H.setAt 2 rfl).at 2 rfl) 8).trans rfl
        (refine wpX_nil ?_; go_step)
        go_wp2_with fail
        go_meet
        case rel => exact ⟨_, (show Hid _ from ⟨andNot_and _ m, fun e => by cases e⟩), H.setTo 2 rfl (by rfl)⟩
    case rest =>
      clear H C
      obtain ⟨vl, HVL, H⟩ := hcut
      skip
      try clear C
      try simp only [World.size_alloc, List.nil_append, List.cons_append, List.append_assoc] at H
      have C := H.cells
      try simp only [cellsOf, cellsM, apartOf, apartM, and_true] at C
      go_step
      go_step
      go_cut [] from 40 to 73 (fun wx => ∃ q2 q3 q4 q5 : Int, Hid (PV a0 a1 a2 a3 a4 a5 p0 p1 q2 q3 q4 q5 ∧ Unnamed k p0 p1 q2 q3 q4 q5) ∧ HS (OneD b) w [.dice B b, .blk bR #[.int .i64 0, .int .i64 0, .int .i64 0, .int .i64 0, .int .i64 0, .int .i64 0, .int .i64 0, .int .i64 0, .int .u8 0, .int .u8 0, .bool false] 38, .blk bQ #[.int .i64 k, .int .i64 p0, .int .i64 p1, .int .i64 q2, .int .i64 q3, .int .i64 q4, .int .i64 q5, .int .i64 v2, .int .u8 m, .int .u8 vl, .bool hard] 38] wx)
      case first =>
        skip
        rcases HK6.out with rfl | rfl | rfl | rfl | rfl | rfl
        · skip
          go_wp2_with fail
          go_meet
          case rel => exact ⟨p2, p3, p4, p5, (show Hid _ from ⟨pv_zero HPV.out (.inl rfl) (.inl rfl) (.inl rfl) (.inl rfl), fun i hi hn => by (have h6 : i = 0 ∨ i = 1 ∨ i = 2 ∨ i = 3 ∨ i = 4 ∨ i = 5 := by omega); rcases h6 with rfl | rfl | rfl | rfl | rfl | rfl <;> first | rfl | (simp [nmB] at hn)⟩), H⟩
        · skip
          go_wp2_with fail
          go_meet
          case rel => exact ⟨p2, p3, p4, 0, (show Hid _ from ⟨pv_zero HPV.out (.inl rfl) (.inl rfl) (.inl rfl) (.inr rfl), fun i hi hn => by (have h6 : i = 0 ∨ i = 1 ∨ i = 2 ∨ i = 3 ∨ i = 4 ∨ i = 5 := by omega); rcases h6 with rfl | rfl | rfl | rfl | rfl | rfl <;> first | rfl | (simp [nmB] at hn)⟩), H.setTo 2 rfl (by rfl)⟩
        · skip
          go_wp2_with fail
          go_meet
          case rel => exact ⟨p2, p3, 0, p5, (show Hid _ from ⟨pv_zero HPV.out (.inl rfl) (.inl rfl) (.inr rfl) (.inl rfl), fun i hi hn => by (have h6 : i = 0 ∨ i = 1 ∨ i = 2 ∨ i = 3 ∨ i = 4 ∨ i = 5 := by omega); rcases h6 with rfl | rfl | rfl | rfl | rfl | rfl <;> first | rfl | (simp [nmB] at hn)⟩), H.setTo 2 rfl (by rfl)⟩
        · skip
          go_wp2_with fail
          go_meet
          case rel => exact ⟨p2, p3, 0, 0, (show Hid _ from ⟨pv_zero HPV.out (.inl rfl) (.inl rfl) (.inr rfl) (.inr rfl), fun i hi hn => by (have h6 : i = 0 ∨ i = 1 ∨ i = 2 ∨ i = 3 ∨ i = 4 ∨ i = 5 := by omega); rcases h6 with rfl | rfl | rfl | rfl | rfl | rfl <;> first | rfl | (simp [nmB] at hn)⟩), (H.setAt 2 rfl).setTo 2 rfl (by rfl)⟩
        · skip
          go_wp2_with fail
          go_meet
          case rel => exact ⟨p2, 0, 0, 0, (show Hid _ from ⟨pv_zero HPV.out (.inl rfl) (.inr rfl) (.inr rfl) (.inr rfl), fun i hi hn => by (have h6 : i = 0 ∨ i = 1 ∨ i = 2 ∨ i = 3 ∨ i = 4 ∨ i = 5 := by omega); rcases h6 with rfl | rfl | rfl | rfl | rfl | rfl <;> first | rfl | (simp [nmB] at hn)⟩), ((H.setAt 2 rfl).setAt 2 rfl).setTo 2 rfl (by rfl)⟩
        · skip
          go_wp2_with fail
          go_meet
          case rel => exact ⟨0, 0, 0, 0, (show Hid _ from ⟨pv_zero HPV.out (.inr rfl) (.inr rfl) (.inr rfl) (.inr rfl), fun i hi hn => by (have h6 : i = 0 ∨ i = 1 ∨ i = 2 ∨ i = 3 ∨ i = 4 ∨ i = 5 := by omega); rcases h6 with rfl | rfl | rfl | rfl | rfl | rfl <;> first | rfl | (simp [nmB] at hn)⟩), (((H.setAt 2 rfl).setAt 2 rfl).setAt 2 rfl).setTo 2 rfl (by rfl)⟩
      case rest =>
        clear H C
        obtain ⟨q2, q3, q4, q5, HQ, H⟩ := hcut
        skip
        try clear C
        try simp only [World.size_alloc, List.nil_append, List.cons_append, List.append_assoc] at H
        have C := H.cells
        try simp only [cellsOf, cellsM, apartOf, apartM, and_true] at C
        have zR : w.heap.size ≤ bR := (H.own _ (List.mem_of_getElem? (i := 1) rfl) bR rfl).resolve_right (fun e => by simp [OneD, *] at e)
        go_wp2_with fail
        refine bodyPost_ret (v := vF k p0 p1 q2 q3 q4 q5 v2 m vl hard) (by simp [results, Tryd.results13, go_sem, *]) rfl ?_
        refine ⟨⟨k, p0, p1, q2, q3, q4, q5, v2, m, vl, hard⟩, rfl, rfl, ?_, ?_, ?_⟩
        · exact vf_yes HS'.out (show 1 ≤ k ∧ k ≤ 6 by have := HK6.out; omega) HQ.out.1 HQ.out.2 HV2.out HM1.out.1 HVL.out
        · repeat refine Dice.setCell ?_ (by simp; omega) (by simp [*]) _
          exact H.at 0 rfl
        · repeat refine Chg.setCell ?_ (.inr (by simp; omega)) _
          exact H.doneDice
end Go.Proofs.YtplflpmkomeadaaDoor
