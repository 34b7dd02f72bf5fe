/- memfaultref31.Put. -/
import Derived.Test.YtfmcicmbehjdcaaLrO
import Derived.Test.YtfmcicmbehjdcaaLrP
namespace Go.Proofs.Ytfmcicmbehjdcaa
set_option linter.unusedSimpArgs false
set_option linter.unusedVariables false
open Go.RowKit
set_option maxRecDepth 100000
attribute [local irreducible] wpX wpF Calls

theorem bumpK_ok {lo k i : Nat} {a : Int} {qs : List Sw} {w : World} (h : SlotsOk w qs) : SlotsOk w (bumpK lo k i a qs) := fun j hj => by
  rw [bumpK_len] at hj
  rw [bumpK_get hj]
  have := h j hj
  split <;> exact this
theorem SlotsAt.base {w : World} {x : Sv} {l : List Sm} (h : SlotsAt w x l) (hl : 0 < l.length) : ∃ b o, x.sa = some ⟨b, o, none⟩ ∧ b < w.heap.size ∧ x.n = l.length ∧ ∀ wx, Below w.heap.size w wx → ∀ k, k < l.length → ∃ y, BytesAt wx y (l[k]!).ln.bs ∧ ∀ i u, (swC ⟨l[k]!, y⟩)[i]? = some u → wx.cell? ⟨b, o + k * 6 + i, none⟩ = some u := by
  obtain ⟨b, o, y, e, hb, hby, hn, hc⟩ := h.line hl
  refine ⟨b, o, e, hb, hn, fun wx hbx k hk => ?_⟩
  obtain ⟨b', o', y', e', hb', hby', hn', hc'⟩ := (h.up hbx).line hk
  rw [e] at e'
  injection e' with e'
  injection e' with e1 e2
  subst e1 e2
  exact ⟨y', hby', hc'⟩
/-- A line put into slot j, all others of the set older by one. -/
theorem put_ref {S W : Nat} {size : Int} {l : List Sm} (hg : GoodC S W size l) {qs : List Sw} (hq : qs.map Sw.s = l) {s j : Nat} (hs : s < S) (hj : j < W) (x : Lm) (y : Sv) :
    ((bumpK (s * W) (s * W + W) (s * W + j) 1000 qs).set (s * W + j) ⟨⟨true, 0, x⟩, y⟩).map Sw.s = onSet W s l (putG (rowG W l s) j x) := by
  have hfit := hg.fits hs
  have hql : qs.length = l.length := by rw [← hq, List.length_map]
  have hages := GoodC.ages (qs := qs) (by rw [hq]; exact hg)
  refine list_ext! (by rw [List.length_map, List.length_set, bumpK_len, onSet_len, hql]) fun t ht => ?_
  rw [List.length_map, List.length_set, bumpK_len] at ht
  rw [map_get _ _ _ (by rw [List.length_set, bumpK_len]; exact ht), set_getG _ _ _ _ (by rw [bumpK_len]; exact ht), bumpK_get ht, onSet_get (by omega)]
  have hat : (qs[t]!).s = l[t]! := by rw [← hq, map_get _ _ _ ht]
  by_cases c : s * W ≤ t ∧ t < s * W + W
  · rw [if_pos c]
    have e0 : rowG W l s (t - s * W) = (qs[t]!).s := by
      unfold rowG
      rw [show s * W + (t - s * W) = t by omega, hat]
    unfold putG
    rw [e0]
    by_cases e : t = s * W + j
    · rw [if_pos e, if_pos (by omega)]
    · rw [if_neg e, if_neg (show ¬ t - s * W = j by omega)]
      by_cases hu : (qs[t]!).s.u = true
      · rw [if_pos ⟨c.1, c.2, e, hu, (hages t ht hu).2⟩, if_pos hu]; rfl
      · rw [if_neg (fun h => hu h.2.2.2.1), if_neg hu]
  · rw [if_neg c, if_neg (show ¬ t = s * W + j by omega), if_neg (fun h => c ⟨h.1, h.2.1⟩), hat]
theorem set_ln {W s j : Nat} {l : List Sm} {x : Lm} (hin : s * W + W ≤ l.length) (hj : j < W) : l.set (s * W + j) ⟨(l[s * W + j]!).u, (l[s * W + j]!).age, x⟩ = onSet W s l (lnG (rowG W l s) j x) := list_ext! (by rw [List.length_set, onSet_len]) fun t ht => by
  rw [List.length_set] at ht
  rw [set_getG _ _ _ _ ht, onSet_get ht]
  by_cases c : s * W ≤ t ∧ t < s * W + W
  · rw [if_pos c]
    have e0 : rowG W l s (t - s * W) = l[t]! := by unfold rowG; rw [show s * W + (t - s * W) = t by omega]
    unfold lnG
    rw [e0]
    by_cases e : t = s * W + j
    · rw [if_pos e, if_pos (by omega), e]
    · rw [if_neg e, if_neg (show ¬ t - s * W = j by omega)]
  · rw [if_neg c, if_neg (show ¬ t = s * W + j by omega)]
theorem use_at {S W : Nat} {size : Int} {qs : List Sw} {N k : Nat} {g c s r : Nat} (hN : qs.length = N) (hk : k = s * W + r) (hg : GoodC S W size (qs.map Sw.s)) (hs : s < S) (hr : r < W) (w : World) (hrow : w.ownsRow 0 37 6 (.slice (some ⟨g, 0, none⟩) N c) N (qs.flatMap swC)) :
    Calls Try.prog 52 #[.agg #[.int .i64 S, .int .i64 W, .int .i64 size, .slice (some ⟨g, 0, none⟩) N c], .int .i64 ((k : Nat) : Int)] w (TurnsTo g N c (useQ W s r qs) w) := by
  subst hN hk
  exact r31use_any hg hs hr w hrow
/-- The oldest of the first t slots of a set. -/
def OldAt (g : Nat → Sm) (lo t : Nat) (o : Int) : Prop := (t = 0 ∧ o = -1) ∨ ∃ r : Nat, r < t ∧ o = ((lo + r : Nat) : Int) ∧ ∀ r', r' < t → (g r').age ≤ (g r).age
set_option maxHeartbeats 32000000 in
theorem r31put_any {S W : Nat} {size : Int} {l : List Sm} (hg : GoodC S W size l) (x : Sv) (m : Lm) (y : Sv) (hm : m.bs.length ≤ 1000) (w : World) (h : SlotsAt w x l) (hy : BytesAt w y m.bs) :
    Calls Try.prog 29 #[caV S W size x, lnV m y] w (GivesPt S W size (PutR S W size l m) w) := by
  obtain ⟨xa, xn, xc⟩ := x
  obtain ⟨ad, bs, d, p⟩ := m
  obtain ⟨ya, yn, yc⟩ := y
  have hlp : 0 < l.length := by rw [hg.len]; exact Nat.mul_pos hg.S1 hg.W1
  obtain ⟨bb, oo, e, hbb, hxn, hcx⟩ := h.base hlp
  dsimp only at e hxn
  subst e hxn
  have HSL := Lib.hid h
  have HG := Lib.hid hg
  have HBB := Lib.hid hbb
  have HCX := Lib.hid hcx
  have HM := Lib.hid (show bs.length ≤ 1000 from hm)
  have HBY := Lib.hid (show BytesAt w ⟨ya, yn, yc⟩ bs from hy)
  have HCP := Lib.hid (fun wx hx => r31copy_any S W size ⟨some ⟨bb, oo, none⟩, l.length, xc⟩ l hg.small wx hx)
  have HAT := Lib.hid (fun a wx hx => r31at_any S W size ⟨some ⟨bb, oo, none⟩, l.length, xc⟩ l (by have := hg.len32; omega) a wx hx)
  have HLV := Lib.hid (fun wx => (show Calls Try.prog 37 #[.int .i64 size, .agg #[.int .i64 ad, .slice ya yn yc, .bool d, .bool p]] wx (Gives (.bool (lineB size ⟨ad, bs, d, p⟩)) wx) from l30valid_any size ⟨ad, bs, d, p⟩ ⟨ya, yn, yc⟩ hy.len wx))
  clear h hg hm hy hcx hbb hlp
  show Calls Try.prog 29 #[.agg #[.int .i64 S, .int .i64 W, .int .i64 size, .slice (some ⟨bb, oo, none⟩) l.length xc], .agg #[.int .i64 ad, .slice ya yn yc, .bool d, .bool p]] w _
  go_enter Try.func29, Try.ntmps29
  have H := HS.start NoD w
  go_upto_region 1 with fail
  generalize hwb : (((w.alloc _).alloc _).alloc _).alloc _ = w1
  replace H := HS.eqW hwb H.alloc.alloc.alloc.alloc
  try simp only [World.size_alloc, List.nil_append, List.cons_append, List.append_assoc] at H
  clear hwb
  generalize w.heap.size + 3 = bL at H ⊢
  generalize w.heap.size + 2 = bR at H ⊢
  generalize w.heap.size + 1 = bN at H ⊢
  generalize w.heap.size = bX at H ⊢
  try clear C
  have C := H.cells
  try simp only [cellsOf, cellsM, apartOf, apartM, and_true] at C
  go_wp2_with fail
  refine (HCP.out _ (HSL.out.up H.done)).mono ?_
  rintro _ w22 ⟨s2, c2, qs, F, hqs, rfl, K⟩
  replace H := H.join K (two_low rfl rfl)
  have HQS := Lib.hid hqs
  clear K HCP
  try simp only [List.nil_append, List.cons_append] at H
  skip
  try clear C
  try simp only [World.size_alloc, List.nil_append, List.cons_append, List.append_assoc] at H
  have C := H.cells
  try simp only [cellsOf, cellsM, apartOf, apartM, and_true] at C
  dsimp only [caV]
  have hgq : GoodC S W size (qs.map Sw.s) := by rw [hqs]; exact HG.out
  have hql : qs.length = l.length := by rw [← hqs, List.length_map]
  have hpos : 0 < qs.length := by
    rw [hql, HG.out.len]; exact Nat.mul_pos HG.out.S1 HG.out.W1
  obtain ⟨g, cap, hv, -, -⟩ := World.ownsRow.form (H.at 4 rfl) (by omega)
  obtain ⟨rfl, -, rfl⟩ := Value.slice.inj hv
  have HQL := Lib.hid hql
  have HGQ := Lib.hid hgq
  have HAGES := Lib.hid hgq.ages
  have HN32 := Lib.hid (show qs.length ≤ 32 by rw [hql]; exact HG.out.len32)
  clear hqs hgq hql hpos hv
  go_upto_region 2 with fail
  generalize hwb : w22.alloc _ = w2
  replace H := HS.eqW hwb H.alloc
  try simp only [World.size_alloc, List.nil_append, List.cons_append, List.append_assoc] at H
  clear hwb
  generalize w22.heap.size = bO at H ⊢
  try clear C
  try clear w22
  have C := H.cells
  try simp only [cellsOf, cellsM, apartOf, apartM, and_true] at C
  cases hlb : lineB size ⟨ad, bs, d, p⟩
  case false =>
    have HLB := Lib.hid hlb
    rw [hlb] at HLV
    clear hlb
    go_wp2_with fail
    refine (HLV.out _).mono ?_
    rintro _ w3 ⟨rfl, hb⟩
    replace H := H.below hb
    clear hb
    try clear C
    try simp only [World.size_alloc, List.nil_append, List.cons_append, List.append_assoc] at H
    try clear w2
    have C := H.cells
    try simp only [cellsOf, cellsM, apartOf, apartM, and_true] at C
    dsimp only
    repeat go_step
    generalize hwb : (((w3.setCell _ _).setCell _ _).setCell _ _).setCell _ _ = w4
    replace H := HS.eqW hwb (H.putAll (i := 2) rfl (vs := [.int .i64 S, .int .i64 W, .int .i64 size, .slice (some ⟨g, 0, none⟩) qs.length c2]) rfl rfl)
    simp only [List.nil_append, List.cons_append, List.append_assoc, List.set_cons_succ, List.set_cons_zero] at H
    clear hwb
    try clear C
    try clear w3
    have C := H.cells
    try simp only [cellsOf, cellsM, apartOf, apartM, and_true] at C
    generalize hwb : (((w4.setCell _ _).setCell _ _).setCell _ _).setCell _ _ = w5
    replace H := HS.eqW hwb (H.putAll (i := 3) rfl (vs := [.int .i64 0, .slice none 0 0, .bool false, .bool false]) rfl rfl)
    simp only [List.nil_append, List.cons_append, List.append_assoc, List.set_cons_succ, List.set_cons_zero] at H
    clear hwb
    try clear C
    try clear w4
    have C := H.cells
    try simp only [cellsOf, cellsM, apartOf, apartM, and_true] at C
    refine bodyPost_ret (v := .tuple #[.agg #[.int .i64 S, .int .i64 W, .int .i64 size, .slice (some ⟨g, 0, none⟩) qs.length c2], .agg #[.int .i64 0, .slice none 0 0, .bool false, .bool false], .bool false, .int .i64 1]) (by simp [results, Try.results29, go_sem, C]) rfl ?_
    have H9 := HS.less (L' := [rowS (some ⟨g, 0, none⟩) qs.length c2 qs, anyS F qs]) H (by repeat (first | exact .slnil | refine .cons_cons _ ?_ | refine .cons _ ?_))
    exact ⟨(l, zLm, false, 1), _, c2, qs, ⟨none, 0, 0⟩, F, .inl ⟨HLB.out, rfl⟩, HQS.out, rfl, HS.weak (L := [_]) H9 fun w' h => ⟨h, bytes_nil w'⟩⟩
  case true =>
    have HLB := Lib.hid hlb
    rw [hlb] at HLV
    have had := (of_decide_eq_true hlb).2.2.2.1
    clear hlb
    try dsimp only at had
    have HAD := Lib.hid had
    go_wp2_with fail
    refine (HLV.out _).mono ?_
    rintro _ w6 ⟨rfl, hb⟩
    replace H := H.below hb
    clear hb
    try clear C
    try simp only [World.size_alloc, List.nil_append, List.cons_append, List.append_assoc] at H
    try clear w5
    have C := H.cells
    try simp only [cellsOf, cellsM, apartOf, apartM, and_true] at C
    dsimp only
    go_wp2_with fail
    refine (HAT.out ad _ (HSL.out.up H.done)).mono ?_
    rintro _ w33 ⟨r, rfl, hr, hb⟩
    replace H := H.below hb
    clear hb HAT had
    skip
    try clear C
    try simp only [World.size_alloc, List.nil_append, List.cons_append, List.append_assoc] at H
    have C := H.cells
    try simp only [cellsOf, cellsM, apartOf, apartM, and_true] at C
    dsimp only
    skip
    rcases hr with ⟨rfl, hno⟩ | ⟨k, hk, rfl, hit⟩
    · have HNH := Lib.hid hno
      clear hno
      have hS1 := HG.out.S1
      have hW1 := HG.out.W1
      have hW4 := HG.out.W4
      have hS8 := HG.out.S8
      obtain ⟨s, hs⟩ : ∃ s : Nat, ad % S = s := ⟨(ad % S).toNat, by rw [Int.toNat_of_nonneg (Int.emod_nonneg _ (by omega))]⟩
      have hsS : s < S := by have := Int.emod_lt_of_pos ad (show (0 : Int) < S by omega); omega
      have hfit := HGQ.out.fits hsS
      rw [List.length_map] at hfit
      have HAS := Lib.hid hs
      have HSS := Lib.hid hsS
      have HW4 := Lib.hid hW4
      have HW1 := Lib.hid hW1
      have hs8 : s ≤ 8 := by omega
      clear hs
      obtain ⟨lo, hlo⟩ : ∃ lo, lo = s * W := ⟨_, rfl⟩
      rw [← hlo] at hfit
      have hlw : (s : Int) * W = lo := by rw [hlo]; push_cast; rfl
      have hhw : ((s : Int) + 1) * W = ((lo + W : Nat) : Int) := by rw [Int.add_mul, Int.one_mul, hlw]; push_cast; rfl
      have HLO := Lib.hid hlo
      clear hlo
      obtain ⟨hi2, hie⟩ : ∃ h, h = lo + W := ⟨_, rfl⟩
      rw [← hie] at hhw
      have hq32 := HN32.out
      have hS0 : ((S : Int) == 0) = false := beq_eq_false_iff_ne.2 (by omega)
      have hS0' : ¬ S = 0 := by omega
      have hb1 : (-9223372036854775808 : Int) ≤ lo ∧ (lo : Int) ≤ 9223372036854775807 := by omega
      have hb2 : (-9223372036854775808 : Int) ≤ hi2 ∧ (hi2 : Int) ≤ 9223372036854775807 := by omega
      have HFIT := Lib.hid hfit
      have HIE := Lib.hid (show hi2 = lo + W ∧ lo ≤ hi2 from ⟨hie, by omega⟩)
      have had0 : (0 : Int) ≤ ad := HAD.out
      have hw1' : IntKind.i64.wrap ((s : Int) * W) = lo := by rw [hlw]; exact IntWalk.i64_in _ hb1
      have hw2' : IntKind.i64.wrap (((s : Int) + 1) * W) = hi2 := by rw [hhw]; exact IntWalk.i64_in _ hb2
      clear hb1 hb2 hlw hhw hfit hie hq32 hS1 hW1 hW4 hS8
      go_upto_region 10 with fail
      rw [HAS.out]
      clear had0
      go_wp2_with fail
      go_loopw [11, 12] (fun ii ov wr => ∃ (t : Nat) (o : Int), ii = .int .i64 ((lo + t : Nat) : Int) ∧ ov = .int .i64 o ∧ t ≤ W ∧ Hid (∀ r, r < t → (rowG W l s r).u = true) ∧ Hid (OldAt (rowG W l s) lo t o) ∧ HS NoD w [.blk bX #[.int .i64 S, .int .i64 W, .int .i64 size, .slice (some ⟨bb, oo, none⟩) l.length xc] 24, .blk bN #[.int .i64 ad, .slice ya yn yc, .bool d, .bool p] 35, .blk bR #[.int .i64 0, .int .i64 0, .int .i64 0, .slice none 0 0] 24, .blk bL #[.int .i64 0, .slice none 0 0, .bool false, .bool false] 35, rowS (some ⟨g, 0, none⟩) qs.length c2 qs, anyS F qs, .blk bO #[.int .i64 S, .int .i64 W, .int .i64 size, .slice (some ⟨g, 0, none⟩) qs.length c2] 24] wr) (fun ii _ _ => hi2 - (intOf ii).toNat)
      case atStart => exact ⟨0, -1, rfl, rfl, Nat.zero_le _, (show Hid _ from fun r hr => absurd hr (Nat.not_lt_zero _)), (show Hid _ from .inl ⟨rfl, rfl⟩), H⟩
      case round =>
        clear H C
        obtain ⟨t, o, rfl, rfl, ht, HU, HOLD, H⟩ := hrel
        skip
        try clear C
        try simp only [World.size_alloc, List.nil_append, List.cons_append, List.append_assoc] at H
        have C := H.cells
        try simp only [cellsOf, cellsM, apartOf, apartM, and_true] at C
        obtain ⟨i, hi⟩ : ∃ i, i = lo + t := ⟨_, rfl⟩
        rw [← hi]
        have HI2 := Lib.hid hi
        have hbX : (bb = bX) = False := eq_false (fun e9 => by have := H.mine 0 rfl; have := HBB.out; omega)
        skip
        by_cases hlt : t < W
        · have hil : i < hi2 := by have := HIE.out; have := HI2.out; omega
          have HLT1 := Lib.hid hlt
          have hib : (i : Int) < 32 := by have := HIE.out; have := HI2.out; have := HFIT.out; have := HN32.out; omega
          have hili : (i : Int) < hi2 := by omega
          have hill : i < l.length := by have := HFIT.out; have := HIE.out; have := HQL.out; omega
          have hillI : (i : Int) < l.length := by omega
          obtain ⟨yx, hyb, hyc⟩ := HCX.out wr H.done i hill
          have hsi : rowG W l s t = l[i]! := by unfold rowG; rw [hi, HLO.out]
          clear hi
          cases hu : (l[i]!).u
          case false =>
            have HFR := Lib.hid (show (rowG W l s t).u = false by rw [hsi]; exact hu)
            have k0 : wr.cell? ⟨bb, oo + i * 6, none⟩ = some (.bool false) := hyc 0 _ (by rw [← hu]; rfl)
            have hneI : ((i : Int) == (hi2 : Int)) = false := beq_eq_false_iff_ne.2 (by omega)
            clear hyb hyc hsi hu HCX
            have HRL := Lib.hid HI2.out
            go_upto_region 16 with fail
            generalize hwb : wr.alloc _ = w7
            replace H := HS.eqW hwb H.alloc
            try simp only [World.size_alloc, List.nil_append, List.cons_append, List.append_assoc] at H
            clear hwb
            generalize wr.heap.size = bV at H ⊢
            try clear C
            try clear wr
            have C := H.cells
            try simp only [cellsOf, cellsM, apartOf, apartM, and_true] at C
            have HPA := Lib.hid (show PutAt W (rowG W l s) t from ⟨hlt, .inl ⟨HFR.out, fun r hr => HU.out r hr⟩⟩)
            have HRI := Lib.hid (show i = s * W + t by rw [← HLO.out]; exact HI2.out)
            have HR0 := Lib.hid hlt
            have HKQ := Lib.hid (show i < qs.length by have := HFIT.out; have := HIE.out; omega)
            repeat go_step
            go_upto_region 20 with fail
            go_loopw [15] (fun kk wr => ∃ (k : Nat), kk = .int .i64 k ∧ lo ≤ k ∧ k ≤ hi2 ∧ HS NoD w [.blk bX #[.int .i64 S, .int .i64 W, .int .i64 size, .slice (some ⟨bb, oo, none⟩) l.length xc] 24, .blk bN #[.int .i64 ad, .slice ya yn yc, .bool d, .bool p] 35, .blk bR #[.int .i64 0, .int .i64 0, .int .i64 0, .slice none 0 0] 24, .blk bL #[.int .i64 0, .slice none 0 0, .bool false, .bool false] 35, rowS (some ⟨g, 0, none⟩) qs.length c2 (bumpK lo k i 1000 qs), anyS F qs, .blk bO #[.int .i64 S, .int .i64 W, .int .i64 size, .slice (some ⟨g, 0, none⟩) qs.length c2] 24, .blk bV #[.int .i64 0, .slice none 0 0, .bool false, .bool false] 35] wr) (fun kk _ => hi2 - (intOf kk).toNat)
            case atStart => exact ⟨lo, rfl, Nat.le_refl _, HIE.out.2, by rw [bumpK_zero]; exact H⟩
            case round =>
              clear H C
              obtain ⟨k, rfl, hk1, hk2, H⟩ := hrel
              skip
              try clear C
              try simp only [World.size_alloc, List.nil_append, List.cons_append, List.append_assoc] at H
              have C := H.cells
              try simp only [cellsOf, cellsM, apartOf, apartM, and_true] at C
              by_cases hlt : k < hi2
              · have hkl : k < qs.length := by have := HIE.out; have := HFIT.out; omega
                have hki : (k : Int) < hi2 := by omega
                have hkq : (k : Int) < qs.length := by omega
                have HLT := Lib.hid (show k < hi2 ∧ lo ≤ k from ⟨hlt, hk1⟩)
                have hkb : (k : Int) < 32 := by have := HN32.out; omega
                have e1 := bumpK_out (lo := lo) (k := k) (i := i) (a := 1000) hkl (.inr (Nat.le_refl _))
                have HYES := Lib.hid (bumpK_yes (lo := lo) (i := i) (a := 1000) hkl hk1)
                have HNO := Lib.hid (bumpK_no (lo := lo) (k := k) (i := i) (a := 1000) (qs := qs))
                have HABK := Lib.hid (HAGES.out k hkl)
                have HSW := Lib.hid (sw_age (bumpK lo k i 1000 qs) k ((qs[k]!).s.age + 1) (by rw [bumpK_len]; exact hkl))
                rw [e1] at HSW
                obtain ⟨q, hq⟩ : ∃ q, q = qs[k]! := ⟨_, rfl⟩
                rw [← hq] at HYES HNO HABK HSW
                have EK := Lib.hid (e1.trans hq.symm)
                clear hq e1
                obtain ⟨⟨u1, age1, ⟨ad1, bs1, d1, p1⟩⟩, ⟨sa1, sn1, sc1⟩⟩ := q
                have HCG := Lib.hid (show ∀ (m : Nat) (v : Value), (swC ⟨⟨u1, age1, ⟨ad1, bs1, d1, p1⟩⟩, ⟨sa1, sn1, sc1⟩⟩)[m]? = some v → ((bumpK lo k i 1000 qs).flatMap swC)[k * 6 + m]? = some v from fun m v hu => flat_get swC_len (bumpK lo k i 1000 qs) k m v (by rw [bumpK_len]; exact hkl) (by rw [EK.out]; exact hu))
                have k0 : wr.cell? ⟨g, k * 6, none⟩ = some (.bool u1) := (H.rowCells 4 rfl (k * 6) (by omega)).1.trans (HCG.out 0 _ rfl)
                have k1 : wr.cell? ⟨g, k * 6 + 1, none⟩ = some (.int .i64 age1) := (H.rowCells 4 rfl (k * 6 + 1) (by omega)).1.trans (HCG.out 1 _ rfl)
                have k1f : wr.frozen? ⟨g, k * 6 + 1, none⟩ = false := (H.rowCells 4 rfl (k * 6 + 1) (by omega)).2
                have hgl : g < wr.heap.size := Item.lt (H.at 4 rfl) (k := g) rfl
                dsimp only at HYES HNO HABK HSW
                by_cases hne : k = i
                · have hneb : ((k : Int) != (i : Int)) = false := by rw [hne]; simp
                  have HN2 := Lib.hid (HNO.out (fun h => h.1 hne))
                  clear hne
                  go_wp2_with fail
                  go_roundw
                  case rel => exact ⟨k + 1, by go_num, by have := HLT.out; omega, by have := HLT.out; omega, by rw [← HN2.out]; exact H⟩
                  case measure => simp [intOf]; have := HLT.out; omega
                · have hneb : ((k : Int) != (i : Int)) = true := bne_iff_ne.2 (by omega)
                  have HNE := Lib.hid hne
                  clear hne
                  cases u1
                  case false =>
                    have HN2 := Lib.hid (HNO.out (fun h => nomatch h.2.1))
                    go_wp2_with fail
                    go_roundw
                    case rel => exact ⟨k + 1, by go_num, by have := HLT.out; omega, by have := HLT.out; omega, by rw [← HN2.out]; exact H⟩
                    case measure => simp [intOf]; have := HLT.out; omega
                  case true =>
                    have hab := HABK.out rfl
                    have HY2 := Lib.hid (HYES.out ⟨HNE.out, rfl, hab.2⟩)
                    go_upto_region 21 with fail
                    generalize hwb : World.setCell _ _ _ = w8
                    have H9 := HS.eqW hwb (H.rowSet 4 rfl (k * 6 + 1) (.int .i64 (age1 + 1)))
                    simp only [List.set_cons_succ, List.set_cons_zero] at H9
                    replace HSW := Lib.hid (HSW.out.trans (congrArg (fun z : List Sw => z.flatMap swC) HY2.out))
                    rw [HSW.out] at H9
                    clear H C k0 k1 k1f hgl hwb
                    go_wp2_with fail
                    go_roundw
                    case rel => exact ⟨k + 1, by go_num, by have := HLT.out; omega, by have := HLT.out; omega, H9⟩
                    case measure => simp [intOf]; have := HLT.out; omega
              · obtain rfl : k = hi2 := by omega
                skip
                have HBL := Lib.hid (bumpK_len lo k i 1000 qs)
                have HPR := Lib.hid (put_ref HG.out HQS.out HSS.out HR0.out ⟨ad, bs, d, p⟩)
                have HOKB := Lib.hid (fun (wx : World) (h : SlotsOk wx qs) => bumpK_ok (lo := lo) (k := k) (i := i) (a := 1000) h)
                rw [← HLO.out, ← HRL.out, ← HIE.out.1] at HPR
                generalize bumpK lo k i 1000 qs = qb at H HBL HPR HOKB
                have LCP := Lib.hid (fun wx (hx : BytesAt wx ⟨ya, yn, yc⟩ bs) => (show Calls Try.prog 33 #[.agg #[.int .i64 ad, .slice ya yn yc, .bool d, .bool p]] wx (GivesLine ⟨ad, bs, d, p⟩ wx) from l30copy_any ⟨ad, bs, d, p⟩ ⟨ya, yn, yc⟩ HM.out wx hx))
                have hiq : (i : Int) < qs.length := by have := HKQ.out; omega
                go_upto_region 24 with fail
                refine wp_region_xH (by kernel_rfl) (by kernel_rfl) (by kernel_rfl) (by kernel_rfl) (fun k => k = g) (H) ?_
                clear H; intro w8 H hz0 hs0
                try clear C
                try simp only [World.size_alloc, List.nil_append, List.cons_append, List.append_assoc] at H hz0
                clear hz0
                try clear wr
                have C := H.cells
                try simp only [cellsOf, cellsM, apartOf, apartM, and_true] at C
                have Z := H.zs
                try simp only [ltsOf, ltsM, and_true] at Z
                have hz0 := Nat.le_refl w8.heap.size
                have na1 := H.rowApart 4 6 rfl rfl (by decide)
                have na2 := H.rowApart 4 1 rfl rfl (by decide)
                repeat (first | (refine wpX_skip rfl ?_; go_simp) | (refine wpX_free rfl rfl rfl (fun K hK => ?_); go_step; refine hK _ _ ?_; clear hK K) | (refine wpX_load rfl rfl rfl (by simp [Stay, OneD, NoD, *]) hs0 (by simp [*]) (fun K hK => ?_); go_step; refine hK _ _ ?_; clear hK K))
                refine wpX_eff rfl rfl (fun _ _ => ?_)
                go_step
                refine (LCP.out _ (HBY.out.up H.done)).mono ?_
                rintro _ w9 ⟨⟨ra, rn, rc⟩, G, rfl, K⟩
                replace hs0 := hs0.belowS hz0 K.done
                replace hz0 := Nat.le_trans hz0 K.done.size
                replace H := H.join K (one_low rfl)
                clear K
                try simp only [List.nil_append, List.cons_append, List.append_assoc] at H
                try clear C
                have C := H.cells
                try simp only [cellsOf, cellsM, apartOf, apartM, and_true] at C
                try clear w8
                dsimp only
                go_step
                refine ⟨hs0, ?_⟩
                dsimp only [lnV]
                repeat (first | (refine wpX_skip rfl ?_; go_simp) | (refine wpX_free rfl rfl rfl (fun K hK => ?_); go_step; refine hK _ _ ?_; clear hK K) | (refine wpX_load rfl rfl rfl (by simp [Stay, OneD, NoD, *]) hs0 (by simp [*]) (fun K hK => ?_); go_step; refine hK _ _ ?_; clear hK K))
                have hk9 : ∀ m, m < 6 → ∃ u, w9.cell? ⟨g, i * 6 + m, none⟩ = some u ∧ w9.frozen? ⟨g, i * 6 + m, none⟩ = false := fun m hm => by
                  have := HKQ.out
                  have h1 := H.rowCells 4 rfl (i * 6 + m) (by omega)
                  exact ⟨_, h1.1.trans (List.getElem?_eq_getElem (by rw [flat_len swC_len, HBL.out]; have := HKQ.out; omega)), h1.2⟩
                obtain ⟨vv0, q0, q0f⟩ : ∃ u, w9.cell? ⟨g, i * 6, none⟩ = some u ∧ w9.frozen? ⟨g, i * 6, none⟩ = false := hk9 0 (by omega)
                obtain ⟨vv1, q1, q1f⟩ : ∃ u, w9.cell? ⟨g, i * 6 + 1, none⟩ = some u ∧ w9.frozen? ⟨g, i * 6 + 1, none⟩ = false := hk9 1 (by omega)
                obtain ⟨vv2, q2, q2f⟩ : ∃ u, w9.cell? ⟨g, i * 6 + 2, none⟩ = some u ∧ w9.frozen? ⟨g, i * 6 + 2, none⟩ = false := hk9 2 (by omega)
                obtain ⟨vv3, q3, q3f⟩ : ∃ u, w9.cell? ⟨g, i * 6 + 3, none⟩ = some u ∧ w9.frozen? ⟨g, i * 6 + 3, none⟩ = false := hk9 3 (by omega)
                obtain ⟨vv4, q4, q4f⟩ : ∃ u, w9.cell? ⟨g, i * 6 + 4, none⟩ = some u ∧ w9.frozen? ⟨g, i * 6 + 4, none⟩ = false := hk9 4 (by omega)
                obtain ⟨vv5, q5, q5f⟩ : ∃ u, w9.cell? ⟨g, i * 6 + 5, none⟩ = some u ∧ w9.frozen? ⟨g, i * 6 + 5, none⟩ = false := hk9 5 (by omega)
                have hgl9 : g < w9.heap.size := Item.lt (H.at 4 rfl) (k := g) rfl
                clear hk9
                refine wpX_eff rfl rfl (fun _ _ => ?_)
                go_step
                go_step
                generalize hwb : (((((w9.setCell _ _).setCell _ _).setCell _ _).setCell _ _).setCell _ _).setCell _ _ = w61
                replace hs0 := Same.eqW hwb ((((((hs0.set (p := ⟨g, i * 6, none⟩) (fun k hk e => hk.2 (by simp [e])) (.bool true)).set (p := ⟨g, i * 6 + 1, none⟩) (fun k hk e => hk.2 (by simp [e])) (.int .i64 0)).set (p := ⟨g, i * 6 + 2, none⟩) (fun k hk e => hk.2 (by simp [e])) (.int .i64 ad)).set (p := ⟨g, i * 6 + 3, none⟩) (fun k hk e => hk.2 (by simp [e])) (.slice ra rn rc)).set (p := ⟨g, i * 6 + 4, none⟩) (fun k hk e => hk.2 (by simp [e])) (.bool d)).set (p := ⟨g, i * 6 + 5, none⟩) (fun k hk e => hk.2 (by simp [e])) (.bool p))
                replace H := HS.eqW hwb ((((((H.rowSet 4 rfl (i * 6) (.bool true)).rowSet 4 rfl (i * 6 + 1) (.int .i64 0)).rowSet 4 rfl (i * 6 + 2) (.int .i64 ad)).rowSet 4 rfl (i * 6 + 3) (.slice ra rn rc)).rowSet 4 rfl (i * 6 + 4) (.bool d)).rowSet 4 rfl (i * 6 + 5) (.bool p))
                clear hwb q0 q0f q1 q1f q2 q2f q3 q3f q4 q4f q5 q5f hgl9
                simp only [List.set_cons_succ, List.set_cons_zero] at H
                rw [show _ = (qb.set i ⟨⟨true, 0, ⟨ad, bs, d, p⟩⟩, ⟨ra, rn, rc⟩⟩).flatMap swC from sw_all qb i ⟨⟨true, 0, ⟨ad, bs, d, p⟩⟩, ⟨ra, rn, rc⟩⟩ (by rw [HBL.out]; exact HKQ.out)] at H
                skip
                try clear C
                try simp only [World.size_alloc, List.nil_append, List.cons_append, List.append_assoc] at H
                have C := H.cells
                try simp only [cellsOf, cellsM, apartOf, apartM, and_true] at C
                refine ⟨hs0, ?_⟩
                (refine wpX_nil ?_; go_step)
                have HQ2 := Lib.hid (HPR.out ⟨ra, rn, rc⟩)
                have HOK2 := Lib.hid (fun (wx : World) (h : SlotsOk wx qs) (hr : BytesAt wx ⟨ra, rn, rc⟩ bs) => slotsOk_set (k := i) (q := ⟨⟨true, 0, ⟨ad, bs, d, p⟩⟩, ⟨ra, rn, rc⟩⟩) (HOKB.out wx h) hr)
                have HQ4 := Lib.hid (show (qb.set i ⟨⟨true, 0, ⟨ad, bs, d, p⟩⟩, ⟨ra, rn, rc⟩⟩).length = qs.length by rw [List.length_set]; exact HBL.out)
                generalize qb.set i ⟨⟨true, 0, ⟨ad, bs, d, p⟩⟩, ⟨ra, rn, rc⟩⟩ = qs2 at H HQ2 HOK2 HQ4
                go_upto_region 25 with fail
                refine wp_region_xH (by kernel_rfl) (by kernel_rfl) (by kernel_rfl) (by kernel_rfl) (fun k => k = bR ∨ k = bL) (H) ?_
                clear H; intro w10 H hz0 hs0
                try clear C
                try simp only [World.size_alloc, List.nil_append, List.cons_append, List.append_assoc] at H hz0
                clear hz0
                try clear w61
                have C := H.cells
                try simp only [cellsOf, cellsM, apartOf, apartM, and_true] at C
                have Z := H.zs
                try simp only [ltsOf, ltsM, and_true] at Z
                have hz0 := Nat.le_refl w10.heap.size
                repeat (first | (refine wpX_skip rfl ?_; go_simp) | (refine wpX_free rfl rfl rfl (fun K hK => ?_); go_step; refine hK _ _ ?_; clear hK K) | (refine wpX_load rfl rfl rfl (by simp [Stay, OneD, NoD, *]) hs0 (by simp [*]) (fun K hK => ?_); go_step; refine hK _ _ ?_; clear hK K))
                refine wpX_eff rfl rfl (fun _ _ => ?_)
                go_step
                go_step
                generalize hwb : (((w10.setCell _ _).setCell _ _).setCell _ _).setCell _ _ = w11
                replace hs0 := Same.eqW hwb (hs0.setAll (b := bR) (fun k hk e => hk.2 (by simp [e])) 0 [.int .i64 S, .int .i64 W, .int .i64 size, .slice (some ⟨g, 0, none⟩) qs.length c2])
                replace hz0 := Nat.le_trans hz0 (Nat.le_of_eq ((setAll_same [.int .i64 S, .int .i64 W, .int .i64 size, .slice (some ⟨g, 0, none⟩) qs.length c2] bR 0 w10).2.2.2.1.symm.trans (congrArg (fun w => w.heap.size) hwb)))
                replace H := HS.eqW hwb (H.putAll (i := 2) rfl (vs := [.int .i64 S, .int .i64 W, .int .i64 size, .slice (some ⟨g, 0, none⟩) qs.length c2]) rfl rfl)
                simp only [List.nil_append, List.cons_append, List.append_assoc, List.set_cons_succ, List.set_cons_zero] at H
                clear hwb
                try clear C
                try clear w10
                have C := H.cells
                try simp only [cellsOf, cellsM, apartOf, apartM, and_true] at C
                refine ⟨hs0, ?_⟩
                refine wpX_eff rfl rfl (fun _ _ => ?_)
                go_step
                go_step
                generalize hwb : (((w11.setCell _ _).setCell _ _).setCell _ _).setCell _ _ = w12
                replace hs0 := Same.eqW hwb (hs0.setAll (b := bL) (fun k hk e => hk.2 (by simp [e])) 0 [.int .i64 0, .slice none 0 0, .bool false, .bool false])
                replace hz0 := Nat.le_trans hz0 (Nat.le_of_eq ((setAll_same [.int .i64 0, .slice none 0 0, .bool false, .bool false] bL 0 w11).2.2.2.1.symm.trans (congrArg (fun w => w.heap.size) hwb)))
                replace H := HS.eqW hwb (H.putAll (i := 3) rfl (vs := [.int .i64 0, .slice none 0 0, .bool false, .bool false]) rfl rfl)
                simp only [List.nil_append, List.cons_append, List.append_assoc, List.set_cons_succ, List.set_cons_zero] at H
                clear hwb
                try clear C
                try clear w11
                have C := H.cells
                try simp only [cellsOf, cellsM, apartOf, apartM, and_true] at C
                refine ⟨hs0, ?_⟩
                repeat (first | (refine wpX_skip rfl ?_; go_simp) | (refine wpX_free rfl rfl rfl (fun K hK => ?_); go_step; refine hK _ _ ?_; clear hK K) | (refine wpX_load rfl rfl rfl (by simp [Stay, OneD, NoD, *]) hs0 (by simp [*]) (fun K hK => ?_); go_step; refine hK _ _ ?_; clear hK K))
                (refine wpX_nil ?_; go_step)
                repeat go_step
                refine bodyPost_ret (v := .tuple #[.agg #[.int .i64 S, .int .i64 W, .int .i64 size, .slice (some ⟨g, 0, none⟩) qs.length c2], .agg #[.int .i64 0, .slice none 0 0, .bool false, .bool false], .bool false, .int .i64 0]) (by simp [results, Try.results29, go_sem, C]) rfl ?_
                have H9 := HS.less (L' := [rowS (some ⟨g, 0, none⟩) qs.length c2 qs2, anyS F qs, .any G (fun w => BytesAt w ⟨ra, rn, rc⟩ bs)]) H (by repeat (first | exact .slnil | refine .cons_cons _ ?_ | refine .cons _ ?_))
                have H8 := HS.merge (L := [_]) H9
                have H7 := HS.weak (L := [_]) H8 (K' := fun w => SlotsOk w qs2 ∧ BytesAt w ⟨none, 0, 0⟩ []) (fun w' h => ⟨HOK2.out w' h.1 h.2, bytes_nil w'⟩)
                have HRES := Lib.hid (show PutR S W size l ⟨ad, bs, d, p⟩ (onSet W s l (putG (rowG W l s) t ⟨ad, bs, d, p⟩), zLm, false, 0) from .inr (.inr ⟨HLB.out, HNH.out, s, t, HSS.out, HAS.out, HPA.out, by
                  have hu : (rowG W l s t).u = false := HFR.out
                  rw [hu]; rfl⟩))
                rw [← HQ4.out] at H7 ⊢
                exact ⟨_, _, _, qs2, ⟨none, 0, 0⟩, _, HRES.out, HQ2.out, rfl, H7⟩
          case true =>
            have HUT := Lib.hid (show (rowG W l s t).u = true by rw [hsi]; exact hu)
            have k0 : wr.cell? ⟨bb, oo + i * 6, none⟩ = some (.bool true) := hyc 0 _ (by rw [← hu]; rfl)
            have k1 : wr.cell? ⟨bb, oo + i * 6 + 1, none⟩ = some (.int .i64 (l[i]!).age) := hyc 1 _ rfl
            have HSI := Lib.hid hsi
            clear hyb hyc hu hsi
            have HU2 := Lib.hid (show ∀ r, r < t + 1 → (rowG W l s r).u = true from fun r hr => by
              by_cases e : r = t
              · rw [e]; exact HUT.out
              · exact HU.out r (by omega))
            rcases HOLD.out with ⟨ht0, ho⟩ | ⟨r, hr, ho, hmax⟩
            · subst ho
              have HO2 := Lib.hid (show OldAt (rowG W l s) lo (t + 1) ((i : Nat) : Int) from .inr ⟨t, by omega, by rw [HI2.out], fun r' hr' => by
                obtain rfl : r' = t := by omega
                exact Int.le_refl _⟩)
              clear ht0
              go_upto_region 12 with fail
              refine wp_region_xH (by kernel_rfl) (by kernel_rfl) (by kernel_rfl) (by kernel_rfl) (fun _ => False) (H) ?_
              clear H; intro w13 H hz0 hs0
              try clear C
              try simp only [World.size_alloc, List.nil_append, List.cons_append, List.append_assoc] at H hz0
              clear hz0
              try clear w12
              have C := H.cells
              try simp only [cellsOf, cellsM, apartOf, apartM, and_true] at C
              have Z := H.zs
              try simp only [ltsOf, ltsM, and_true] at Z
              have hz0 := Nat.le_refl w13.heap.size
              repeat (first | (refine wpX_skip rfl ?_; go_simp) | (refine wpX_free rfl rfl rfl (fun K hK => ?_); go_step; refine hK _ _ ?_; clear hK K) | (refine wpX_load rfl rfl rfl (by simp [Stay, OneD, NoD, *]) hs0 (by simp [*]) (fun K hK => ?_); go_step; refine hK _ _ ?_; clear hK K))
              (refine wpX_nil ?_; go_step)
              go_wp2_with fail
              go_roundw
              case rel => exact ⟨t + 1, _, by rw [HI2.out]; go_num, rfl, by have := HLT1.out; omega, HU2, HO2, H⟩
              case measure => simp [intOf]; have := HI2.out; have := HIE.out; have := HLT1.out; omega
            · subst ho
              obtain ⟨o, hoe⟩ : ∃ o, o = lo + r := ⟨_, rfl⟩
              rw [← hoe]
              have hol : o < l.length := by have := HI2.out; omega
              have holI : (o : Int) < l.length := by omega
              have hso : rowG W l s r = l[o]! := by unfold rowG; rw [hoe, HLO.out]
              obtain ⟨yo, -, hoc⟩ := HCX.out wr H.done o hol
              have o1 : wr.cell? ⟨bb, oo + o * 6 + 1, none⟩ = some (.int .i64 (l[o]!).age) := hoc 1 _ rfl
              have ho0 : ¬ ((o : Int) < 0) := by omega
              have HMX := Lib.hid hmax
              have HSO := Lib.hid hso
              have HOE := Lib.hid hoe
              have HR := Lib.hid hr
              obtain ⟨ai, hai⟩ : ∃ a, a = (l[i]!).age := ⟨_, rfl⟩
              obtain ⟨ao, hao⟩ : ∃ a, a = (l[o]!).age := ⟨_, rfl⟩
              rw [← hai] at k1
              rw [← hao] at o1
              have HAI := Lib.hid hai
              have HAO := Lib.hid hao
              have HCY := Lib.hid (fun (wx : World) (hb : Below w.heap.size w wx) => show wx.cell? ⟨bb, oo + i * 6 + 1, none⟩ = some (.int .i64 ai) ∧ wx.cell? ⟨bb, oo + o * 6 + 1, none⟩ = some (.int .i64 ao) from by
                obtain ⟨y1, -, h1⟩ := HCX.out wx hb i hill
                obtain ⟨y2, -, h2⟩ := HCX.out wx hb o hol
                rw [hai, hao]
                exact ⟨h1 1 _ rfl, h2 1 _ rfl⟩)
              clear hoc hmax hso hoe hr hai hao
              by_cases hage : ao < ai
              · have HO2 := Lib.hid (show OldAt (rowG W l s) lo (t + 1) ((i : Nat) : Int) from .inr ⟨t, by omega, by rw [HI2.out], fun r' hr' => by
                  by_cases e : r' = t
                  · rw [e]; exact Int.le_refl _
                  · have h1 := HMX.out r' (by omega)
                    rw [HSO.out, ← HAO.out] at h1
                    rw [HSI.out, ← HAI.out]
                    omega⟩)
                go_upto_region 12 with fail
                refine wp_region_xH (by kernel_rfl) (by kernel_rfl) (by kernel_rfl) (by kernel_rfl) (fun _ => False) (H) ?_
                clear H; intro w14 H hz0 hs0
                try clear C
                try simp only [World.size_alloc, List.nil_append, List.cons_append, List.append_assoc] at H hz0
                clear hz0
                try clear w13
                have C := H.cells
                try simp only [cellsOf, cellsM, apartOf, apartM, and_true] at C
                have Z := H.zs
                try simp only [ltsOf, ltsM, and_true] at Z
                have hz0 := Nat.le_refl w14.heap.size
                obtain ⟨k1, o1⟩ := HCY.out _ H.done
                have hbl : bb < w14.heap.size := by have := HBB.out; have := H.done.size; omega
                repeat (first | (refine wpX_skip rfl ?_; go_simp) | (refine wpX_free rfl rfl rfl (fun K hK => ?_); go_step; refine hK _ _ ?_; clear hK K) | (refine wpX_load rfl rfl rfl (by simp [Stay, OneD, NoD, *]) hs0 (by simp [*]) (fun K hK => ?_); go_step; refine hK _ _ ?_; clear hK K))
                (refine wpX_nil ?_; go_step)
                go_wp2_with fail
                go_roundw
                case rel => exact ⟨t + 1, _, by rw [HI2.out]; go_num, rfl, by have := HLT1.out; omega, HU2, HO2, H⟩
                case measure => simp [intOf]; have := HI2.out; have := HIE.out; have := HLT1.out; omega
              · have HO2 := Lib.hid (show OldAt (rowG W l s) lo (t + 1) ((o : Nat) : Int) from .inr ⟨r, by have := HR.out; omega, by rw [HOE.out], fun r' hr' => by
                  by_cases e : r' = t
                  · rw [e, HSI.out, HSO.out, ← HAI.out, ← HAO.out]; omega
                  · exact HMX.out r' (by omega)⟩)
                go_upto_region 12 with fail
                refine wp_region_xH (by kernel_rfl) (by kernel_rfl) (by kernel_rfl) (by kernel_rfl) (fun _ => False) (H) ?_
                clear H; intro w15 H hz0 hs0
                try clear C
                try simp only [World.size_alloc, List.nil_append, List.cons_append, List.append_assoc] at H hz0
                clear hz0
                try clear w14
                have C := H.cells
                try simp only [cellsOf, cellsM, apartOf, apartM, and_true] at C
                have Z := H.zs
                try simp only [ltsOf, ltsM, and_true] at Z
                have hz0 := Nat.le_refl w15.heap.size
                obtain ⟨k1, o1⟩ := HCY.out _ H.done
                have hbl : bb < w15.heap.size := by have := HBB.out; have := H.done.size; omega
                repeat (first | (refine wpX_skip rfl ?_; go_simp) | (refine wpX_free rfl rfl rfl (fun K hK => ?_); go_step; refine hK _ _ ?_; clear hK K) | (refine wpX_load rfl rfl rfl (by simp [Stay, OneD, NoD, *]) hs0 (by simp [*]) (fun K hK => ?_); go_step; refine hK _ _ ?_; clear hK K))
                (refine wpX_nil ?_; go_step)
                go_wp2_with fail
                go_roundw
                case rel => exact ⟨t + 1, _, by rw [HI2.out]; go_num, rfl, by have := HLT1.out; omega, HU2, HO2, H⟩
                case measure => simp [intOf]; have := HI2.out; have := HIE.out; have := HLT1.out; omega
        · skip
          obtain rfl : t = W := by omega
          have hih : i = hi2 := by have := HIE.out; omega
          subst hih
          obtain ⟨r, hrW, rfl, hag⟩ : ∃ r : Nat, r < t ∧ o = ((lo + r : Nat) : Int) ∧ (rowG t l s r).age = (t : Int) - 1 := by
            rcases HOLD.out with ⟨h0, -⟩ | ⟨r, hr, ho, hmax⟩
            · have := HW1.out; omega
            · refine ⟨r, hr, ho, ?_⟩
              obtain ⟨r', hr', h1⟩ := (HG.out.sets s HSS.out).oldest HW1.out HW4.out HU.out
              have h2 := hmax r' hr'
              have h3 := ((HG.out.sets s HSS.out).ageU r hr (HU.out r hr)).1
              omega
          have HAL := HU
          have hpa : PutAt t (rowG t l s) r := ⟨hrW, .inr ⟨HU.out, hag⟩⟩
          clear hi hag HOLD
          obtain ⟨o, hoe⟩ : ∃ o, o = lo + r := ⟨_, rfl⟩
          rw [← hoe]
          have hri : o = s * t + r := by rw [← HLO.out]; exact hoe
          have HRI := Lib.hid hri
          have hol : o < l.length := by have := HFIT.out; have := HQL.out; omega
          have holI : (o : Int) < l.length := by omega
          have HSO := Lib.hid (show rowG t l s r = l[o]! by unfold rowG; rw [hri])
          have HOL := Lib.hid hol
          have HR0 := Lib.hid hrW
          have HPA := Lib.hid hpa
          have HKQ := Lib.hid (show o < qs.length by have := HQL.out; omega)
          have HRL := Lib.hid hoe
          clear hoe hri hpa
          go_upto_region 16 with fail
          generalize hwb : wr.alloc _ = w16
          replace H := HS.eqW hwb H.alloc
          try simp only [World.size_alloc, List.nil_append, List.cons_append, List.append_assoc] at H
          clear hwb
          generalize wr.heap.size = bV at H ⊢
          try clear C
          try clear wr
          have C := H.cells
          try simp only [cellsOf, cellsM, apartOf, apartM, and_true] at C
          obtain ⟨yo, hob, hoc⟩ := HCX.out w16 H.done o HOL.out
          have HML := Lib.hid (HG.out.bytes HOL.out)
          have HSJ := Lib.hid HSO.out
          generalize l[o]! = sk at hob hoc HML HSJ
          obtain ⟨u0, ag0, ⟨ad0, bs0, d0, p0⟩⟩ := sk
          obtain ⟨y0, yn0, yc0⟩ := yo
          have hbX : (bb = bX) = False := eq_false (fun e9 => by have := H.mine 0 rfl; have := HBB.out; omega)
          have k2 : w16.cell? ⟨bb, oo + o * 6 + 2, none⟩ = some (.int .i64 ad0) := hoc 2 _ rfl
          have k3 : w16.cell? ⟨bb, oo + o * 6 + 3, none⟩ = some (.slice y0 yn0 yc0) := hoc 3 _ rfl
          have k4 : w16.cell? ⟨bb, oo + o * 6 + 4, none⟩ = some (.bool d0) := hoc 4 _ rfl
          have k5 : w16.cell? ⟨bb, oo + o * 6 + 5, none⟩ = some (.bool p0) := hoc 5 _ rfl
          have HOB := Lib.hid hob
          clear hoc hob
          have LCQ := Lib.hid (fun wx (hx : BytesAt wx ⟨y0, yn0, yc0⟩ bs0) => (show Calls Try.prog 33 #[.agg #[.int .i64 ad0, .slice y0 yn0 yc0, .bool d0, .bool p0]] wx (GivesLine ⟨ad0, bs0, d0, p0⟩ wx) from l30copy_any ⟨ad0, bs0, d0, p0⟩ ⟨y0, yn0, yc0⟩ (Nat.le_trans HML.out (by omega)) wx hx))
          go_wp2_with fail
          refine (LCQ.out _ HOB.out).mono ?_
          rintro _ w44 ⟨⟨r0, rn0, rc0⟩, G0, rfl, K⟩
          clear k2 k3 k4 k5
          replace H := H.join K (one_low rfl)
          clear K LCQ
          try simp only [List.nil_append, List.cons_append] at H
          skip
          try clear C
          try simp only [World.size_alloc, List.nil_append, List.cons_append, List.append_assoc] at H
          have C := H.cells
          try simp only [cellsOf, cellsM, apartOf, apartM, and_true] at C
          dsimp only [lnV]
          repeat go_step
          generalize hwb : (((w44.setCell _ _).setCell _ _).setCell _ _).setCell _ _ = w17
          replace H := HS.eqW hwb (H.putAll (i := 7) rfl (vs := [.int .i64 ad0, .slice r0 rn0 rc0, .bool d0, .bool p0]) rfl rfl)
          simp only [List.nil_append, List.cons_append, List.append_assoc, List.set_cons_succ, List.set_cons_zero] at H
          clear hwb
          try clear C
          try clear w44
          have C := H.cells
          try simp only [cellsOf, cellsM, apartOf, apartM, and_true] at C
          go_upto_region 20 with fail
          go_loopw [15] (fun kk wr => ∃ (k : Nat), kk = .int .i64 k ∧ lo ≤ k ∧ k ≤ i ∧ HS NoD w [.blk bX #[.int .i64 S, .int .i64 t, .int .i64 size, .slice (some ⟨bb, oo, none⟩) l.length xc] 24, .blk bN #[.int .i64 ad, .slice ya yn yc, .bool d, .bool p] 35, .blk bR #[.int .i64 0, .int .i64 0, .int .i64 0, .slice none 0 0] 24, .blk bL #[.int .i64 0, .slice none 0 0, .bool false, .bool false] 35, rowS (some ⟨g, 0, none⟩) qs.length c2 (bumpK lo k o 1000 qs), anyS F qs, .blk bO #[.int .i64 S, .int .i64 t, .int .i64 size, .slice (some ⟨g, 0, none⟩) qs.length c2] 24, .blk bV #[.int .i64 ad0, .slice r0 rn0 rc0, .bool d0, .bool p0] 35, .any G0 (fun w => BytesAt w ⟨r0, rn0, rc0⟩ bs0)] wr) (fun kk _ => i - (intOf kk).toNat)
          case atStart => exact ⟨lo, rfl, Nat.le_refl _, HIE.out.2, by rw [bumpK_zero]; exact H⟩
          case round =>
            clear H C
            obtain ⟨k, rfl, hk1, hk2, H⟩ := hrel
            skip
            try clear C
            try simp only [World.size_alloc, List.nil_append, List.cons_append, List.append_assoc] at H
            have C := H.cells
            try simp only [cellsOf, cellsM, apartOf, apartM, and_true] at C
            by_cases hlt : k < i
            · have hkl : k < qs.length := by have := HIE.out; have := HFIT.out; omega
              have hki : (k : Int) < i := by omega
              have hkq : (k : Int) < qs.length := by omega
              have HLT := Lib.hid (show k < i ∧ lo ≤ k from ⟨hlt, hk1⟩)
              have hkb : (k : Int) < 32 := by have := HN32.out; omega
              have e1 := bumpK_out (lo := lo) (k := k) (i := o) (a := 1000) hkl (.inr (Nat.le_refl _))
              have HYES := Lib.hid (bumpK_yes (lo := lo) (i := o) (a := 1000) hkl hk1)
              have HNO := Lib.hid (bumpK_no (lo := lo) (k := k) (i := o) (a := 1000) (qs := qs))
              have HABK := Lib.hid (HAGES.out k hkl)
              have HSW := Lib.hid (sw_age (bumpK lo k o 1000 qs) k ((qs[k]!).s.age + 1) (by rw [bumpK_len]; exact hkl))
              rw [e1] at HSW
              obtain ⟨q, hq⟩ : ∃ q, q = qs[k]! := ⟨_, rfl⟩
              rw [← hq] at HYES HNO HABK HSW
              have EK := Lib.hid (e1.trans hq.symm)
              clear hq e1
              obtain ⟨⟨u1, age1, ⟨ad1, bs1, d1, p1⟩⟩, ⟨sa1, sn1, sc1⟩⟩ := q
              have HCG := Lib.hid (show ∀ (m : Nat) (v : Value), (swC ⟨⟨u1, age1, ⟨ad1, bs1, d1, p1⟩⟩, ⟨sa1, sn1, sc1⟩⟩)[m]? = some v → ((bumpK lo k o 1000 qs).flatMap swC)[k * 6 + m]? = some v from fun m v hu => flat_get swC_len (bumpK lo k o 1000 qs) k m v (by rw [bumpK_len]; exact hkl) (by rw [EK.out]; exact hu))
              have k0 : wr.cell? ⟨g, k * 6, none⟩ = some (.bool u1) := (H.rowCells 4 rfl (k * 6) (by omega)).1.trans (HCG.out 0 _ rfl)
              have k1 : wr.cell? ⟨g, k * 6 + 1, none⟩ = some (.int .i64 age1) := (H.rowCells 4 rfl (k * 6 + 1) (by omega)).1.trans (HCG.out 1 _ rfl)
              have k1f : wr.frozen? ⟨g, k * 6 + 1, none⟩ = false := (H.rowCells 4 rfl (k * 6 + 1) (by omega)).2
              have hgl : g < wr.heap.size := Item.lt (H.at 4 rfl) (k := g) rfl
              dsimp only at HYES HNO HABK HSW
              by_cases hne : k = o
              · have hneb : ((k : Int) != (o : Int)) = false := by rw [hne]; simp
                have HN2 := Lib.hid (HNO.out (fun h => h.1 hne))
                clear hne
                go_wp2_with fail
                go_roundw
                case rel => exact ⟨k + 1, by go_num, by have := HLT.out; omega, by have := HLT.out; omega, by rw [← HN2.out]; exact H⟩
                case measure => simp [intOf]; have := HLT.out; omega
              · have hneb : ((k : Int) != (o : Int)) = true := bne_iff_ne.2 (by omega)
                have HNE := Lib.hid hne
                clear hne
                cases u1
                case false =>
                  have HN2 := Lib.hid (HNO.out (fun h => nomatch h.2.1))
                  go_wp2_with fail
                  go_roundw
                  case rel => exact ⟨k + 1, by go_num, by have := HLT.out; omega, by have := HLT.out; omega, by rw [← HN2.out]; exact H⟩
                  case measure => simp [intOf]; have := HLT.out; omega
                case true =>
                  have hab := HABK.out rfl
                  have HY2 := Lib.hid (HYES.out ⟨HNE.out, rfl, hab.2⟩)
                  go_upto_region 21 with fail
                  generalize hwb : World.setCell _ _ _ = w8
                  have H9 := HS.eqW hwb (H.rowSet 4 rfl (k * 6 + 1) (.int .i64 (age1 + 1)))
                  simp only [List.set_cons_succ, List.set_cons_zero] at H9
                  replace HSW := Lib.hid (HSW.out.trans (congrArg (fun z : List Sw => z.flatMap swC) HY2.out))
                  rw [HSW.out] at H9
                  clear H C k0 k1 k1f hgl hwb
                  go_wp2_with fail
                  go_roundw
                  case rel => exact ⟨k + 1, by go_num, by have := HLT.out; omega, by have := HLT.out; omega, H9⟩
                  case measure => simp [intOf]; have := HLT.out; omega
            · obtain rfl : k = i := by omega
              skip
              have HBL := Lib.hid (bumpK_len lo k o 1000 qs)
              have HPR := Lib.hid (put_ref HG.out HQS.out HSS.out HR0.out ⟨ad, bs, d, p⟩)
              have HOKB := Lib.hid (fun (wx : World) (h : SlotsOk wx qs) => bumpK_ok (lo := lo) (k := k) (i := o) (a := 1000) h)
              rw [← HLO.out, ← HRL.out, ← HIE.out.1] at HPR
              generalize bumpK lo k o 1000 qs = qb at H HBL HPR HOKB
              have LCP := Lib.hid (fun wx (hx : BytesAt wx ⟨ya, yn, yc⟩ bs) => (show Calls Try.prog 33 #[.agg #[.int .i64 ad, .slice ya yn yc, .bool d, .bool p]] wx (GivesLine ⟨ad, bs, d, p⟩ wx) from l30copy_any ⟨ad, bs, d, p⟩ ⟨ya, yn, yc⟩ HM.out wx hx))
              have hiq : (o : Int) < qs.length := by have := HKQ.out; omega
              go_upto_region 24 with fail
              refine wp_region_xH (by kernel_rfl) (by kernel_rfl) (by kernel_rfl) (by kernel_rfl) (fun k => k = g) (H) ?_
              clear H; intro w18 H hz0 hs0
              try clear C
              try simp only [World.size_alloc, List.nil_append, List.cons_append, List.append_assoc] at H hz0
              clear hz0
              try clear wr
              have C := H.cells
              try simp only [cellsOf, cellsM, apartOf, apartM, and_true] at C
              have Z := H.zs
              try simp only [ltsOf, ltsM, and_true] at Z
              have hz0 := Nat.le_refl w18.heap.size
              have na1 := H.rowApart 4 6 rfl rfl (by decide)
              have na2 := H.rowApart 4 1 rfl rfl (by decide)
              repeat (first | (refine wpX_skip rfl ?_; go_simp) | (refine wpX_free rfl rfl rfl (fun K hK => ?_); go_step; refine hK _ _ ?_; clear hK K) | (refine wpX_load rfl rfl rfl (by simp [Stay, OneD, NoD, *]) hs0 (by simp [*]) (fun K hK => ?_); go_step; refine hK _ _ ?_; clear hK K))
              refine wpX_eff rfl rfl (fun _ _ => ?_)
              go_step
              refine (LCP.out _ (HBY.out.up H.done)).mono ?_
              rintro _ w19 ⟨⟨ra, rn, rc⟩, G, rfl, K⟩
              replace hs0 := hs0.belowS hz0 K.done
              replace hz0 := Nat.le_trans hz0 K.done.size
              replace H := H.join K (one_low rfl)
              clear K
              try simp only [List.nil_append, List.cons_append, List.append_assoc] at H
              try clear C
              have C := H.cells
              try simp only [cellsOf, cellsM, apartOf, apartM, and_true] at C
              try clear w18
              dsimp only
              go_step
              refine ⟨hs0, ?_⟩
              dsimp only [lnV]
              repeat (first | (refine wpX_skip rfl ?_; go_simp) | (refine wpX_free rfl rfl rfl (fun K hK => ?_); go_step; refine hK _ _ ?_; clear hK K) | (refine wpX_load rfl rfl rfl (by simp [Stay, OneD, NoD, *]) hs0 (by simp [*]) (fun K hK => ?_); go_step; refine hK _ _ ?_; clear hK K))
              have hk9 : ∀ m, m < 6 → ∃ u, w19.cell? ⟨g, o * 6 + m, none⟩ = some u ∧ w19.frozen? ⟨g, o * 6 + m, none⟩ = false := fun m hm => by
                have := HKQ.out
                have h1 := H.rowCells 4 rfl (o * 6 + m) (by omega)
                exact ⟨_, h1.1.trans (List.getElem?_eq_getElem (by rw [flat_len swC_len, HBL.out]; have := HKQ.out; omega)), h1.2⟩
              obtain ⟨vv0, q0, q0f⟩ : ∃ u, w19.cell? ⟨g, o * 6, none⟩ = some u ∧ w19.frozen? ⟨g, o * 6, none⟩ = false := hk9 0 (by omega)
              obtain ⟨vv1, q1, q1f⟩ : ∃ u, w19.cell? ⟨g, o * 6 + 1, none⟩ = some u ∧ w19.frozen? ⟨g, o * 6 + 1, none⟩ = false := hk9 1 (by omega)
              obtain ⟨vv2, q2, q2f⟩ : ∃ u, w19.cell? ⟨g, o * 6 + 2, none⟩ = some u ∧ w19.frozen? ⟨g, o * 6 + 2, none⟩ = false := hk9 2 (by omega)
              obtain ⟨vv3, q3, q3f⟩ : ∃ u, w19.cell? ⟨g, o * 6 + 3, none⟩ = some u ∧ w19.frozen? ⟨g, o * 6 + 3, none⟩ = false := hk9 3 (by omega)
              obtain ⟨vv4, q4, q4f⟩ : ∃ u, w19.cell? ⟨g, o * 6 + 4, none⟩ = some u ∧ w19.frozen? ⟨g, o * 6 + 4, none⟩ = false := hk9 4 (by omega)
              obtain ⟨vv5, q5, q5f⟩ : ∃ u, w19.cell? ⟨g, o * 6 + 5, none⟩ = some u ∧ w19.frozen? ⟨g, o * 6 + 5, none⟩ = false := hk9 5 (by omega)
              have hgl9 : g < w19.heap.size := Item.lt (H.at 4 rfl) (k := g) rfl
              clear hk9
              refine wpX_eff rfl rfl (fun _ _ => ?_)
              go_step
              go_step
              generalize hwb : (((((w19.setCell _ _).setCell _ _).setCell _ _).setCell _ _).setCell _ _).setCell _ _ = w62
              replace hs0 := Same.eqW hwb ((((((hs0.set (p := ⟨g, o * 6, none⟩) (fun k hk e => hk.2 (by simp [e])) (.bool true)).set (p := ⟨g, o * 6 + 1, none⟩) (fun k hk e => hk.2 (by simp [e])) (.int .i64 0)).set (p := ⟨g, o * 6 + 2, none⟩) (fun k hk e => hk.2 (by simp [e])) (.int .i64 ad)).set (p := ⟨g, o * 6 + 3, none⟩) (fun k hk e => hk.2 (by simp [e])) (.slice ra rn rc)).set (p := ⟨g, o * 6 + 4, none⟩) (fun k hk e => hk.2 (by simp [e])) (.bool d)).set (p := ⟨g, o * 6 + 5, none⟩) (fun k hk e => hk.2 (by simp [e])) (.bool p))
              replace H := HS.eqW hwb ((((((H.rowSet 4 rfl (o * 6) (.bool true)).rowSet 4 rfl (o * 6 + 1) (.int .i64 0)).rowSet 4 rfl (o * 6 + 2) (.int .i64 ad)).rowSet 4 rfl (o * 6 + 3) (.slice ra rn rc)).rowSet 4 rfl (o * 6 + 4) (.bool d)).rowSet 4 rfl (o * 6 + 5) (.bool p))
              clear hwb q0 q0f q1 q1f q2 q2f q3 q3f q4 q4f q5 q5f hgl9
              simp only [List.set_cons_succ, List.set_cons_zero] at H
              rw [show _ = (qb.set o ⟨⟨true, 0, ⟨ad, bs, d, p⟩⟩, ⟨ra, rn, rc⟩⟩).flatMap swC from sw_all qb o ⟨⟨true, 0, ⟨ad, bs, d, p⟩⟩, ⟨ra, rn, rc⟩⟩ (by rw [HBL.out]; exact HKQ.out)] at H
              skip
              try clear C
              try simp only [World.size_alloc, List.nil_append, List.cons_append, List.append_assoc] at H
              have C := H.cells
              try simp only [cellsOf, cellsM, apartOf, apartM, and_true] at C
              refine ⟨hs0, ?_⟩
              (refine wpX_nil ?_; go_step)
              have HQ2 := Lib.hid (HPR.out ⟨ra, rn, rc⟩)
              have HOK2 := Lib.hid (fun (wx : World) (h : SlotsOk wx qs) (hr : BytesAt wx ⟨ra, rn, rc⟩ bs) => slotsOk_set (k := o) (q := ⟨⟨true, 0, ⟨ad, bs, d, p⟩⟩, ⟨ra, rn, rc⟩⟩) (HOKB.out wx h) hr)
              have HQ4 := Lib.hid (show (qb.set o ⟨⟨true, 0, ⟨ad, bs, d, p⟩⟩, ⟨ra, rn, rc⟩⟩).length = qs.length by rw [List.length_set]; exact HBL.out)
              generalize qb.set o ⟨⟨true, 0, ⟨ad, bs, d, p⟩⟩, ⟨ra, rn, rc⟩⟩ = qs2 at H HQ2 HOK2 HQ4
              go_upto_region 25 with fail
              refine wp_region_xH (by kernel_rfl) (by kernel_rfl) (by kernel_rfl) (by kernel_rfl) (fun k => k = bR ∨ k = bL) (H) ?_
              clear H; intro w20 H hz0 hs0
              try clear C
              try simp only [World.size_alloc, List.nil_append, List.cons_append, List.append_assoc] at H hz0
              clear hz0
              try clear w62
              have C := H.cells
              try simp only [cellsOf, cellsM, apartOf, apartM, and_true] at C
              have Z := H.zs
              try simp only [ltsOf, ltsM, and_true] at Z
              have hz0 := Nat.le_refl w20.heap.size
              repeat (first | (refine wpX_skip rfl ?_; go_simp) | (refine wpX_free rfl rfl rfl (fun K hK => ?_); go_step; refine hK _ _ ?_; clear hK K) | (refine wpX_load rfl rfl rfl (by simp [Stay, OneD, NoD, *]) hs0 (by simp [*]) (fun K hK => ?_); go_step; refine hK _ _ ?_; clear hK K))
              refine wpX_eff rfl rfl (fun _ _ => ?_)
              go_step
              go_step
              generalize hwb : (((w20.setCell _ _).setCell _ _).setCell _ _).setCell _ _ = w21
              replace hs0 := Same.eqW hwb (hs0.setAll (b := bR) (fun k hk e => hk.2 (by simp [e])) 0 [.int .i64 S, .int .i64 t, .int .i64 size, .slice (some ⟨g, 0, none⟩) qs.length c2])
              replace hz0 := Nat.le_trans hz0 (Nat.le_of_eq ((setAll_same [.int .i64 S, .int .i64 t, .int .i64 size, .slice (some ⟨g, 0, none⟩) qs.length c2] bR 0 w20).2.2.2.1.symm.trans (congrArg (fun w => w.heap.size) hwb)))
              replace H := HS.eqW hwb (H.putAll (i := 2) rfl (vs := [.int .i64 S, .int .i64 t, .int .i64 size, .slice (some ⟨g, 0, none⟩) qs.length c2]) rfl rfl)
              simp only [List.nil_append, List.cons_append, List.append_assoc, List.set_cons_succ, List.set_cons_zero] at H
              clear hwb
              try clear C
              try clear w20
              have C := H.cells
              try simp only [cellsOf, cellsM, apartOf, apartM, and_true] at C
              refine ⟨hs0, ?_⟩
              refine wpX_eff rfl rfl (fun _ _ => ?_)
              go_step
              go_step
              generalize hwb : (((w21.setCell _ _).setCell _ _).setCell _ _).setCell _ _ = w22
              replace hs0 := Same.eqW hwb (hs0.setAll (b := bL) (fun k hk e => hk.2 (by simp [e])) 0 [.int .i64 ad0, .slice r0 rn0 rc0, .bool d0, .bool p0])
              replace hz0 := Nat.le_trans hz0 (Nat.le_of_eq ((setAll_same [.int .i64 ad0, .slice r0 rn0 rc0, .bool d0, .bool p0] bL 0 w21).2.2.2.1.symm.trans (congrArg (fun w => w.heap.size) hwb)))
              replace H := HS.eqW hwb (H.putAll (i := 3) rfl (vs := [.int .i64 ad0, .slice r0 rn0 rc0, .bool d0, .bool p0]) rfl rfl)
              simp only [List.nil_append, List.cons_append, List.append_assoc, List.set_cons_succ, List.set_cons_zero] at H
              clear hwb
              try clear C
              try clear w21
              have C := H.cells
              try simp only [cellsOf, cellsM, apartOf, apartM, and_true] at C
              refine ⟨hs0, ?_⟩
              repeat (first | (refine wpX_skip rfl ?_; go_simp) | (refine wpX_free rfl rfl rfl (fun K hK => ?_); go_step; refine hK _ _ ?_; clear hK K) | (refine wpX_load rfl rfl rfl (by simp [Stay, OneD, NoD, *]) hs0 (by simp [*]) (fun K hK => ?_); go_step; refine hK _ _ ?_; clear hK K))
              (refine wpX_nil ?_; go_step)
              repeat go_step
              refine bodyPost_ret (v := .tuple #[.agg #[.int .i64 S, .int .i64 t, .int .i64 size, .slice (some ⟨g, 0, none⟩) qs.length c2], .agg #[.int .i64 ad0, .slice r0 rn0 rc0, .bool d0, .bool p0], .bool true, .int .i64 0]) (by simp [results, Try.results29, go_sem, C]) rfl ?_
              have H9 := HS.less (L' := [rowS (some ⟨g, 0, none⟩) qs.length c2 qs2, anyS F qs, .any G0 (fun w => BytesAt w ⟨r0, rn0, rc0⟩ bs0), .any G (fun w => BytesAt w ⟨ra, rn, rc⟩ bs)]) H (by repeat (first | exact .slnil | refine .cons_cons _ ?_ | refine .cons _ ?_))
              have H8 := HS.merge (L := [_, _]) H9
              have H6 := HS.merge (L := [_]) H8
              have H7 := HS.weak (L := [_]) H6 (K' := fun w => SlotsOk w qs2 ∧ BytesAt w ⟨r0, rn0, rc0⟩ bs0) (fun w' h => ⟨HOK2.out w' h.1 h.2.2, h.2.1⟩)
              have HRES := Lib.hid (show PutR S t size l ⟨ad, bs, d, p⟩ (onSet t s l (putG (rowG t l s) r ⟨ad, bs, d, p⟩), ⟨ad0, bs0, d0, p0⟩, true, 0) from .inr (.inr ⟨HLB.out, HNH.out, s, r, HSS.out, HAS.out, HPA.out, by
                have hu : (rowG t l s r).u = true := HAL.out r HR0.out
                rw [if_pos hu, hu, HSJ.out]⟩))
              rw [← HQ4.out] at H7 ⊢
              exact ⟨_, _, _, qs2, ⟨r0, rn0, rc0⟩, _, HRES.out, HQ2.out, rfl, H7⟩
    · skip
      have HIT := Lib.hid hit
      have HK := Lib.hid hk
      obtain ⟨c1, c5, c3⟩ := HG.out.coord hk
      have hki : (0 : Int) ≤ k := by omega
      have hkq : k < qs.length := by have := HQL.out; omega
      have HKQ := Lib.hid hkq
      have hkqI : (k : Int) < qs.length := by omega
      have hsk : (qs[k]!).s = l[k]! := by rw [← HQS.out, map_get _ _ _ hkq]
      have HSK := Lib.hid hsk
      have HGN := Lib.hid (show GoodC S W size (l.set k ⟨(l[k]!).u, (l[k]!).age, ⟨ad, bs, d, p⟩⟩) from by
        have h1 := set_ln (x := ⟨ad, bs, d, p⟩) (HG.out.fits c1) c5
        rw [c3] at h1
        rw [h1]
        have e : rowG W l (k / W) (k % W) = l[k]! := by unfold rowG; rw [c3]
        exact HG.out.onSet c1 ((HG.out.sets _ c1).ln c5 (by rw [e]; exact hit.1) HLB.out (by rw [e]; exact hit.2.symm)))
      have HMQ := Lib.hid (fun (yv : Sv) => show (qs.set k ⟨⟨(qs[k]!).s.u, (qs[k]!).s.age, ⟨ad, bs, d, p⟩⟩, yv⟩).map Sw.s = l.set k ⟨(l[k]!).u, (l[k]!).age, ⟨ad, bs, d, p⟩⟩ from by rw [map_set, HQS.out, hsk])
      have HUS := Lib.hid (fun (yv : Sv) wx hr => use_at (S := S) (W := W) (size := size) (N := qs.length) (k := k) (qs := qs.set k ⟨⟨(qs[k]!).s.u, (qs[k]!).s.age, ⟨ad, bs, d, p⟩⟩, yv⟩) List.length_set c3.symm (by rw [HMQ.out yv]; exact HGN.out) (g := g) (c := c2) c1 c5 wx hr)
      have HPO := Lib.hid (fun (yv : Sv) => by
        have := put_over HG.out HQS.out c1 c5 ⟨ad, bs, d, p⟩ yv
        rw [c3] at this
        exact this)
      have HOKQ := Lib.hid (fun (yv : Sv) (wx : World) (h : SlotsOk wx qs) (hr : BytesAt wx yv bs) => useQ_ok (W := W) (s := k / W) (r := k % W) (slotsOk_set (k := k) (q := ⟨⟨(qs[k]!).s.u, (qs[k]!).s.age, ⟨ad, bs, d, p⟩⟩, yv⟩) h hr))
      have HLQ := Lib.hid (fun (yv : Sv) => show (useQ W (k / W) (k % W) (qs.set k ⟨⟨(qs[k]!).s.u, (qs[k]!).s.age, ⟨ad, bs, d, p⟩⟩, yv⟩)).length = qs.length from by rw [useQ_len, List.length_set])
      have HRES := Lib.hid (show PutR S W size l ⟨ad, bs, d, p⟩ (onSet W (k / W) l (useG (lnG (rowG W l (k / W)) (k % W) ⟨ad, bs, d, p⟩) (k % W)), zLm, false, 0) from .inr (.inl ⟨HLB.out, k / W, k % W, c1, c5, by rw [c3]; exact hit, rfl⟩))
      have LCP := Lib.hid (fun wx (hx : BytesAt wx ⟨ya, yn, yc⟩ bs) => (show Calls Try.prog 33 #[.agg #[.int .i64 ad, .slice ya yn yc, .bool d, .bool p]] wx (GivesLine ⟨ad, bs, d, p⟩ wx) from l30copy_any ⟨ad, bs, d, p⟩ ⟨ya, yn, yc⟩ HM.out wx hx))
      clear c1 c5 c3 hit hsk hk HCX
      go_upto_region 6 with fail
      refine wp_region_xH (by kernel_rfl) (by kernel_rfl) (by kernel_rfl) (by kernel_rfl) (fun k => k = g) (H) ?_
      clear H; intro w23 H hz0 hs0
      try clear C
      try simp only [World.size_alloc, List.nil_append, List.cons_append, List.append_assoc] at H hz0
      clear hz0
      try clear w33
      have C := H.cells
      try simp only [cellsOf, cellsM, apartOf, apartM, and_true] at C
      have Z := H.zs
      try simp only [ltsOf, ltsM, and_true] at Z
      have hz0 := Nat.le_refl w23.heap.size
      have na1 := H.rowApart 4 6 rfl rfl (by decide)
      have na2 := H.rowApart 4 1 rfl rfl (by decide)
      repeat (first | (refine wpX_skip rfl ?_; go_simp) | (refine wpX_free rfl rfl rfl (fun K hK => ?_); go_step; refine hK _ _ ?_; clear hK K) | (refine wpX_load rfl rfl rfl (by simp [Stay, OneD, NoD, *]) hs0 (by simp [*]) (fun K hK => ?_); go_step; refine hK _ _ ?_; clear hK K))
      refine wpX_eff rfl rfl (fun _ _ => ?_)
      go_step
      refine (LCP.out _ (HBY.out.up H.done)).mono ?_
      rintro _ w24 ⟨⟨ra, rn, rc⟩, G, rfl, K⟩
      replace hs0 := hs0.belowS hz0 K.done
      replace hz0 := Nat.le_trans hz0 K.done.size
      replace H := H.join K (one_low rfl)
      clear K
      try simp only [List.nil_append, List.cons_append, List.append_assoc] at H
      try clear C
      have C := H.cells
      try simp only [cellsOf, cellsM, apartOf, apartM, and_true] at C
      try clear w23
      dsimp only
      go_step
      refine ⟨hs0, ?_⟩
      dsimp only [lnV]
      repeat (first | (refine wpX_skip rfl ?_; go_simp) | (refine wpX_free rfl rfl rfl (fun K hK => ?_); go_step; refine hK _ _ ?_; clear hK K) | (refine wpX_load rfl rfl rfl (by simp [Stay, OneD, NoD, *]) hs0 (by simp [*]) (fun K hK => ?_); go_step; refine hK _ _ ?_; clear hK K))
      have hk9 : ∀ m, m < 6 → ∃ u, w24.cell? ⟨g, k * 6 + m, none⟩ = some u ∧ w24.frozen? ⟨g, k * 6 + m, none⟩ = false := fun m hm => by
        have := HKQ.out
        have h1 := H.rowCells 4 rfl (k * 6 + m) (by omega)
        exact ⟨_, h1.1.trans (List.getElem?_eq_getElem (by rw [flat_len swC_len]; have := HKQ.out; omega)), h1.2⟩
      obtain ⟨vv2, q2, q2f⟩ : ∃ u, w24.cell? ⟨g, k * 6 + 2, none⟩ = some u ∧ w24.frozen? ⟨g, k * 6 + 2, none⟩ = false := hk9 2 (by omega)
      obtain ⟨vv3, q3, q3f⟩ : ∃ u, w24.cell? ⟨g, k * 6 + 3, none⟩ = some u ∧ w24.frozen? ⟨g, k * 6 + 3, none⟩ = false := hk9 3 (by omega)
      obtain ⟨vv4, q4, q4f⟩ : ∃ u, w24.cell? ⟨g, k * 6 + 4, none⟩ = some u ∧ w24.frozen? ⟨g, k * 6 + 4, none⟩ = false := hk9 4 (by omega)
      obtain ⟨vv5, q5, q5f⟩ : ∃ u, w24.cell? ⟨g, k * 6 + 5, none⟩ = some u ∧ w24.frozen? ⟨g, k * 6 + 5, none⟩ = false := hk9 5 (by omega)
      have hgl9 : g < w24.heap.size := Item.lt (H.at 4 rfl) (k := g) rfl
      clear hk9
      refine wpX_eff rfl rfl (fun _ _ => ?_)
      go_step
      go_step
      generalize hwb : (((w24.setCell _ _).setCell _ _).setCell _ _).setCell _ _ = w63
      replace hs0 := Same.eqW hwb ((((hs0.set (p := ⟨g, k * 6 + 2, none⟩) (fun k hk e => hk.2 (by simp [e])) (.int .i64 ad)).set (p := ⟨g, k * 6 + 3, none⟩) (fun k hk e => hk.2 (by simp [e])) (.slice ra rn rc)).set (p := ⟨g, k * 6 + 4, none⟩) (fun k hk e => hk.2 (by simp [e])) (.bool d)).set (p := ⟨g, k * 6 + 5, none⟩) (fun k hk e => hk.2 (by simp [e])) (.bool p))
      replace H := HS.eqW hwb ((((H.rowSet 4 rfl (k * 6 + 2) (.int .i64 ad)).rowSet 4 rfl (k * 6 + 3) (.slice ra rn rc)).rowSet 4 rfl (k * 6 + 4) (.bool d)).rowSet 4 rfl (k * 6 + 5) (.bool p))
      clear hwb q2 q2f q3 q3f q4 q4f q5 q5f hgl9
      simp only [List.set_cons_succ, List.set_cons_zero] at H
      rw [sw_line qs k ⟨ad, bs, d, p⟩ ⟨ra, rn, rc⟩ HKQ.out] at H
      skip
      try clear C
      try simp only [World.size_alloc, List.nil_append, List.cons_append, List.append_assoc] at H
      have C := H.cells
      try simp only [cellsOf, cellsM, apartOf, apartM, and_true] at C
      refine ⟨hs0, ?_⟩
      (refine wpX_nil ?_; go_step)
      have HTC := Lib.hid (HUS.out ⟨ra, rn, rc⟩)
      have HQ9 := Lib.hid (HPO.out ⟨ra, rn, rc⟩)
      have HO9 := Lib.hid (HOKQ.out ⟨ra, rn, rc⟩)
      have HL9 := Lib.hid (HLQ.out ⟨ra, rn, rc⟩)
      clear HUS HPO HOKQ HLQ HMQ HGN
      generalize useQ W (k / W) (k % W) (qs.set k ⟨⟨(qs[k]!).s.u, (qs[k]!).s.age, ⟨ad, bs, d, p⟩⟩, ⟨ra, rn, rc⟩⟩) = qs2 at HTC HQ9 HO9 HL9
      go_wp2_with fail
      refine (HTC.out _ (H.at 4 rfl)).mono ?_
      rintro _ w99 ⟨rfl, K⟩
      replace H := H.turnOwn 4 rfl K
      clear K HTC
      try simp only [List.set_cons_succ, List.set_cons_zero] at H
      skip
      try clear C
      try simp only [World.size_alloc, List.nil_append, List.cons_append, List.append_assoc] at H
      have C := H.cells
      try simp only [cellsOf, cellsM, apartOf, apartM, and_true] at C
      dsimp only
      repeat go_step
      generalize hwb : (((w99.setCell _ _).setCell _ _).setCell _ _).setCell _ _ = w25
      replace H := HS.eqW hwb (H.putAll (i := 2) rfl (vs := [.int .i64 S, .int .i64 W, .int .i64 size, .slice (some ⟨g, 0, none⟩) qs.length c2]) rfl rfl)
      simp only [List.nil_append, List.cons_append, List.append_assoc, List.set_cons_succ, List.set_cons_zero] at H
      clear hwb
      try clear C
      try clear w99
      have C := H.cells
      try simp only [cellsOf, cellsM, apartOf, apartM, and_true] at C
      generalize hwb : (((w25.setCell _ _).setCell _ _).setCell _ _).setCell _ _ = w26
      replace H := HS.eqW hwb (H.putAll (i := 3) rfl (vs := [.int .i64 0, .slice none 0 0, .bool false, .bool false]) rfl rfl)
      simp only [List.nil_append, List.cons_append, List.append_assoc, List.set_cons_succ, List.set_cons_zero] at H
      clear hwb
      try clear C
      try clear w25
      have C := H.cells
      try simp only [cellsOf, cellsM, apartOf, apartM, and_true] at C
      refine bodyPost_ret (v := .tuple #[.agg #[.int .i64 S, .int .i64 W, .int .i64 size, .slice (some ⟨g, 0, none⟩) qs.length c2], .agg #[.int .i64 0, .slice none 0 0, .bool false, .bool false], .bool false, .int .i64 0]) (by simp [results, Try.results29, go_sem, C]) rfl ?_
      have H9 := HS.less (L' := [rowS (some ⟨g, 0, none⟩) qs.length c2 qs2, anyS F qs, .any G (fun w => BytesAt w ⟨ra, rn, rc⟩ bs)]) H (by repeat (first | exact .slnil | refine .cons_cons _ ?_ | refine .cons _ ?_))
      have H8 := HS.merge (L := [_]) H9
      have H7 := HS.weak (L := [_]) H8 (K' := fun w => SlotsOk w qs2 ∧ BytesAt w ⟨none, 0, 0⟩ []) (fun w' h => ⟨HO9.out w' h.1 h.2, bytes_nil w'⟩)
      rw [← HL9.out] at H7 ⊢
      exact ⟨_, _, _, qs2, ⟨none, 0, 0⟩, _, HRES.out, HQ9.out, rfl, H7⟩
end Go.Proofs.Ytfmcicmbehjdcaa
