/- Plan (chapter 39): the best rows (plan.best). -/
import Derived.Test.YtdhnpjgnnfgklaaPlN
namespace Go.Proofs.Ytdhnpjgnnfgklaa
set_option linter.unusedSimpArgs false
set_option linter.unusedVariables false
open Go.RowKit
set_option maxRecDepth 100000
attribute [local irreducible] wpX wpF Calls
attribute [local go_sem] run_mkMapG

theorem cmpI_any (a b : Int) (w : World) : Calls Try.prog 51 #[.int .i64 a, .int .i64 b] w (Gives (.int .i64 (Lib.compareInt a b)) w) := by
  have h : Calls Try.prog 51 #[.int .i64 a, .int .i64 b] w (fun e w' => e = .returned (.int .i64 (Lib.compareInt a b)) ∧ w' = w) := AnyG.cmp_Compare_int Try.cmpInt a b w
  refine h.mono ?_
  rintro e w' ⟨rfl, rfl⟩
  exact ⟨rfl, Below.refl _ _⟩
theorem cmpI_lt {a b : Int} : Lib.compareInt a b < 0 ↔ a < b := by
  unfold Lib.compareInt
  by_cases h1 : a < b
  · simp [h1]
  · by_cases h2 : b < a <;> simp [h1, h2]
set_option maxHeartbeats 8000000 in
theorem best1_any {l : List Nd} (hx : l.length ≤ 20) {sa : Option Addr} (c : Nat) {i k : Nat} (hi : i < l.length) (hk : k < l.length) (bL : Nat) (w : World) (hb : Blk w bL #[.slice sa l.length c] 30) (hl : Lies w w.heap.size sa 7 l.length (fun j => ndC l[j]!)) :
    Calls Try.prog 53 #[.int .i64 i, .int .i64 k, .pointer (some ⟨bL, 0, none⟩)] w (Gives (.int .i64 (Lib.compareInt l[k]!.loss l[i]!.loss)) w) := by
  have HL := Lib.hid hl
  have HB := Lib.hid hb
  clear hl hb
  go_enter Try.func53, Try.ntmps53
  have H := HS.start NoD w
  have hii : (i : Int) < l.length := by omega
  have hki : (k : Int) < l.length := by omega
  obtain ⟨x, hxe⟩ : ∃ x, x = l[i]!.loss := ⟨_, rfl⟩
  obtain ⟨y, hye⟩ : ∃ y, y = l[k]!.loss := ⟨_, rfl⟩
  rw [← hxe, ← hye]
  obtain ⟨b, o, rfl, hb1, hc1⟩ := HL.out.at hi
  obtain ⟨b2, o2, e0, hb2, hc2⟩ := HL.out.at hk
  cases e0
  have c1 : w.cell? ⟨b, o + i * 7 + 6, none⟩ = some (.int .i64 l[i]!.loss) := hc1 6 _ rfl
  have c2 : w.cell? ⟨b, o + k * 7 + 6, none⟩ = some (.int .i64 l[k]!.loss) := hc2 6 _ rfl
  rw [← hxe] at c1
  rw [← hye] at c2
  clear hc1 hc2 hxe hye
  have HCM := Lib.hid (fun W => cmpI_any y x W)
  generalize Lib.compareInt y x = v at HCM ⊢
  go_upto_region 1 with fail
  have hbl := HB.out.lt
  refine wp_region_xH (by kernel_rfl) (by kernel_rfl) (by kernel_rfl) (by kernel_rfl) (fun _ => False) (H) ?_
  clear H; intro w1 H hz0 hs0
  try clear C
  try simp only [World.size_alloc, List.nil_append, List.cons_append, List.append_assoc] at H hz0
  clear hz0
  have C := H.cells
  try simp only [cellsOf, cellsM, apartOf, apartM, and_true] at C
  have Z := H.zs
  try simp only [ltsOf, ltsM, and_true] at Z
  have hz0 := Nat.le_refl w1.heap.size
  have d1 : w1.cell? ⟨b, o + i * 7 + 6, none⟩ = some (.int .i64 x) := (H.was (p := ⟨b, o + i * 7 + 6, none⟩) hb1 (fun h => h)).trans c1
  have d2 : w1.cell? ⟨b, o + k * 7 + 6, none⟩ = some (.int .i64 y) := (H.was (p := ⟨b, o + k * 7 + 6, none⟩) hb1 (fun h => h)).trans c2
  have d3 : ∀ q, w1.cell? ⟨bL, q, none⟩ = #[.slice (some ⟨b, o, none⟩) l.length c][q]? := fun q => (H.was (p := ⟨bL, q, none⟩) hbl (fun h => h)).trans (HB.out.cell q)
  have z1 : b < w1.heap.size := Nat.lt_of_lt_of_le hb1 H.size
  have z2 : bL < w1.heap.size := Nat.lt_of_lt_of_le hbl H.size
  clear c1 c2 hb1 hb2 hbl
  repeat (first | (refine wpX_skip rfl ?_; go_simp) | (refine wpX_free rfl rfl rfl (fun K hK => ?_); go_step; refine hK _ _ ?_; clear hK K) | (refine wpX_load rfl rfl rfl (by simp [Stay, OneD, NoD, *]) hs0 (by simp [*]) (fun K hK => ?_); go_step; refine hK _ _ ?_; clear hK K))
  refine wpX_eff rfl rfl (fun _ _ => ?_)
  go_step
  refine (HCM.out _).mono ?_
  rintro _ w2 ⟨rfl, hb⟩
  replace hs0 := hs0.belowS hz0 hb
  replace hz0 := Nat.le_trans hz0 hb.size
  replace H := H.below hb
  clear hb
  try clear C
  have C := H.cells
  try simp only [cellsOf, cellsM, apartOf, apartM, and_true] at C
  try clear w1
  dsimp only
  go_step
  refine ⟨hs0, ?_⟩
  repeat (first | (refine wpX_skip rfl ?_; go_simp) | (refine wpX_free rfl rfl rfl (fun K hK => ?_); go_step; refine hK _ _ ?_; clear hK K) | (refine wpX_load rfl rfl rfl (by simp [Stay, OneD, NoD, *]) hs0 (by simp [*]) (fun K hK => ?_); go_step; refine hK _ _ ?_; clear hK K))
  (refine wpX_nil ?_; go_step)
  go_wp2_with fail
  go_ret
  exact ⟨rfl, H.done⟩
/-- The candidates among the first k needs. -/
def candK (l : List Nd) (rs : List P6) (k : Nat) : List Int := ((l.zipIdx.take k).filter fun z => decide (0 < z.1.loss) && !inR rs z.1.p).map fun z => (z.2 : Int)
theorem candK_succ {l : List Nd} {k : Nat} (rs : List P6) (hk : k < l.length) : candK l rs (k + 1) = candK l rs k ++ if (decide (0 < l[k]!.loss) && !inR rs l[k]!.p) = true then [(k : Int)] else [] := by
  unfold candK
  rw [zip_take hk, List.filter_append, List.map_append, List.filter_cons, List.filter_nil]
  split <;> simp
theorem candK_full (l : List Nd) (rs : List P6) : candK l rs l.length = candI l rs := by
  unfold candK; rw [zip_full]; rfl
theorem candK_len (l : List Nd) (rs : List P6) (k : Nat) : (candK l rs k).length ≤ k := by
  unfold candK
  rw [List.length_map]
  exact Nat.le_trans (List.length_filter_le _ _) (by rw [List.length_take]; omega)
theorem inR_mem {rs : List P6} (h : ∀ r ∈ rs, RankIs r) (p : P6) : decide (rankP p ∈ rs) = inR rs p := by
  rw [Bool.eq_iff_iff, decide_eq_true_iff, inR_iff]
  constructor
  · intro hm; exact ⟨_, hm, rfl⟩
  · rintro ⟨r, hr, e⟩; rw [← e, rankP_of (h r hr)]; exact hr
def cntB (l : List Nd) (ts : List Int) (k : Nat) (b : P6) : Nat := (ts.take k).countP fun j => decide (bkI l j = b)
theorem cntB_succ {l : List Nd} {ts : List Int} {k : Nat} (hk : k < ts.length) (b : P6) : cntB l ts (k + 1) b = cntB l ts k b + if bkI l ts[k]! = b then 1 else 0 := by
  unfold cntB
  rw [List.take_add_one, List.countP_append, List.getElem?_eq_getElem hk, getElem!_pos ts k hk]
  simp [List.countP_cons]
theorem takenP_len (l : List Nd) (a : Int) (ts : List Int) : ∀ k, (takenP l a ts k).length ≤ k
  | 0 => by simp [takenP]
  | k + 1 => by
    have := takenP_len l a ts k
    rw [takenP]
    split
    · rw [List.length_append]; simp; omega
    · omega
theorem befI_trans (l : List Nd) (x y z : Int) (h1 : befI l x y) (h2 : befI l y z) : befI l x z := by
  unfold befI at *; omega
set_option maxHeartbeats 32000000 in
theorem pbest_any {l : List Nd} (hok : LossOk l) (hx : l.length ≤ 12) (a : Int) (ha : 0 ≤ a ∧ a ≤ 12) {sa sc : Option Addr} (c e : Nat) {rs : List P6} (hs : rs.length ≤ 100000) (hrk : ∀ r ∈ rs, RankIs r) (w : World) (hl : Lies w w.heap.size sa 7 l.length (fun j => ndC l[j]!)) (hls : Lies w w.heap.size sc 6 rs.length (fun j => pC rs[j]!)) :
    Calls Try.prog 31 #[.slice sa l.length c, .int .i64 a, .slice sc rs.length e] w (GivesS (fun v => v) 3 1 (rowsFor l a rs).length ((rowsFor l a rs).flatMap iC) w) := by
  have HL := Lib.hid hl
  have HLS := Lib.hid hls
  have HRK := Lib.hid hrk
  have HOK := Lib.hid hok
  clear hl hls hrk hok
  go_enter Try.func31, Try.ntmps31
  have H := HS.start NoD w
  go_upto_region 1 with fail
  generalize hwb : w.alloc _ = w1
  replace H := HS.eqW hwb H.alloc
  try simp only [World.size_alloc, List.nil_append, List.cons_append, List.append_assoc] at H
  clear hwb
  generalize w.heap.size = bL at H ⊢
  try clear C
  have C := H.cells
  try simp only [cellsOf, cellsM, apartOf, apartM, and_true] at C
  have hnr := H.nilRow 3 1
  clear H
  have H := hnr
  clear hnr
  try simp only [List.nil_append, List.cons_append] at H
  try clear C
  try simp only [World.size_alloc, List.nil_append, List.cons_append, List.append_assoc] at H
  have C := H.cells
  try simp only [cellsOf, cellsM, apartOf, apartM, and_true] at C
  go_wp2_with fail
  go_loopw [7, 17] (fun u j wr => ∃ (k : Nat) (xs : List Int), j = .int .i64 k ∧ k ≤ l.length ∧ Hid (xs = candK l rs k) ∧ HS NoD w [.blk bL #[.slice sa l.length c] 30, .row u 3 1 xs.length (xs.flatMap iC)] wr) (fun _ j _ => l.length - (intOf j).toNat)
  case atStart => exact ⟨0, [], rfl, Nat.zero_le _, (show Hid _ from rfl), H⟩
  case round =>
    clear H C
    obtain ⟨k, xs, rfl, hk, HX, H⟩ := hrel
    skip
    try clear C
    try simp only [World.size_alloc, List.nil_append, List.cons_append, List.append_assoc] at H
    have C := H.cells
    try simp only [cellsOf, cellsM, apartOf, apartM, and_true] at C
    by_cases hlt : k < l.length
    · have hki : (k : Int) < l.length := by omega
      have hk20 : (k : Int) ≤ 12 := by omega
      have hxl : xs.length ≤ 12 := by rw [HX.out]; have := candK_len l rs k; omega
      obtain ⟨b, o, rfl, hb, hc⟩ := (H.lies HL.out).at hlt
      obtain ⟨q, hq⟩ : ∃ q, q = l[k]! := ⟨_, rfl⟩
      rw [← hq] at hc
      have HQ := Lib.hid hq
      clear hq
      have HCK := Lib.hid (candK_succ rs hlt)
      rw [← HQ.out] at HCK
      have HIM := Lib.hid (inR_mem HRK.out q.p)
      have HRP := Lib.hid (fun W => prank_any q.p W)
      obtain ⟨⟨p0, p1, p2, p3, p4, p5⟩, pl⟩ := q
      have c0 : wr.cell? ⟨b, o + k * 7, none⟩ = some (.int .i64 p0) := hc 0 _ rfl
      have c1 : wr.cell? ⟨b, o + k * 7 + 1, none⟩ = some (.int .i64 p1) := hc 1 _ rfl
      have c2 : wr.cell? ⟨b, o + k * 7 + 2, none⟩ = some (.int .i64 p2) := hc 2 _ rfl
      have c3 : wr.cell? ⟨b, o + k * 7 + 3, none⟩ = some (.int .i64 p3) := hc 3 _ rfl
      have c4 : wr.cell? ⟨b, o + k * 7 + 4, none⟩ = some (.int .i64 p4) := hc 4 _ rfl
      have c5 : wr.cell? ⟨b, o + k * 7 + 5, none⟩ = some (.int .i64 p5) := hc 5 _ rfl
      have c6 : wr.cell? ⟨b, o + k * 7 + 6, none⟩ = some (.int .i64 pl) := hc 6 _ rfl
      clear hc hb
      dsimp only at HIM HRP
      go_upto_region 5 with fail
      clear c0 c1 c2 c3 c4 c5 c6
      generalize hwb : wr.alloc _ = w2
      replace H := HS.eqW hwb H.alloc
      try simp only [World.size_alloc, List.nil_append, List.cons_append, List.append_assoc] at H
      clear hwb
      generalize wr.heap.size = bN at H ⊢
      try clear C
      try clear wr
      have C := H.cells
      try simp only [cellsOf, cellsM, apartOf, apartM, and_true] at C
      skip
      by_cases hz : 0 < pl
      · have HZ := Lib.hid hz
        have HH := Lib.hid (fun wx hx => hasPl (rankP ⟨p0, p1, p2, p3, p4, p5⟩) (sa := sc) e (fs := rs) (by omega) wx hx)
        rw [HIM.out] at HH
        generalize rankP ⟨p0, p1, p2, p3, p4, p5⟩ = y at HRP HH
        go_wp2_with fail
        refine (HRP.out _).mono ?_
        rintro _ wc ⟨rfl, hb⟩
        replace H := H.below hb
        clear hb
        skip
        try clear C
        try simp only [World.size_alloc, List.nil_append, List.cons_append, List.append_assoc] at H
        have C := H.cells
        try simp only [cellsOf, cellsM, apartOf, apartM, and_true] at C
        go_wp2_with fail
        refine (HH.out _ (H.liesUp HLS.out)).mono ?_
        rintro _ wd ⟨rfl, hb⟩
        replace H := H.below hb
        clear hb HH
        skip
        try clear C
        try simp only [World.size_alloc, List.nil_append, List.cons_append, List.append_assoc] at H
        have C := H.cells
        try simp only [cellsOf, cellsM, apartOf, apartM, and_true] at C
        skip
        cases hin : inR rs ⟨p0, p1, p2, p3, p4, p5⟩ with
        | true =>
          have HIN := Lib.hid hin
          clear hin
          go_wp2_with fail
          go_roundw
          case rel =>
            refine ⟨k + 1, xs, by go_num, by omega, (show Hid _ from ?_), H.less (by repeat (first | exact .slnil | refine .cons_cons _ ?_ | refine .cons _ ?_))⟩
            rw [HCK.out, HIN.out, HX.out]; simp; trivial
          case measure => simp [intOf]; omega
        | false =>
          have HIN := Lib.hid hin
          clear hin
          skip
          go_wp2_with (at_builtin; refine wpList_append_H rfl (.tmp 33) (.tmp 35) 22 rfl elemI1 H.alloc 1 rfl rfl 3 rfl rfl rfl rfl (by decide) (by unfold maxLen; omega) (by omega) (fun g cap wz HZ9 => ?_); clear H C)
          go_roundw
          case rel =>
            refine ⟨k + 1, xs ++ [(k : Int)], by go_num, by omega, (show Hid _ from ?_), ?_⟩
            · rw [HCK.out, HIN.out, HX.out, decide_eq_true HZ.out]; rfl
            · rw [List.length_append, List.flatMap_append]
              exact HS.less HZ9 (by repeat (first | exact .slnil | refine .cons_cons _ ?_ | refine .cons _ ?_))
          case measure => simp [intOf]; omega
      · have HZ := Lib.hid hz
        skip
        go_wp2_with fail
        go_roundw
        case rel =>
          refine ⟨k + 1, xs, by go_num, by omega, (show Hid _ from ?_), H.less (by repeat (first | exact .slnil | refine .cons_cons _ ?_ | refine .cons _ ?_))⟩
          rw [HCK.out, decide_eq_false (fun h : 0 < pl => HZ.out h), HX.out]; simp; trivial
        case measure => simp [intOf]; omega
    · skip
      have hkl : k = l.length := by omega
      subst hkl
      have hxf := HX.out
      rw [candK_full] at hxf
      obtain ⟨s5, c5, rfl⟩ := ownsRow_slice (H.at 1 rfl)
      have hxn : xs.length ≤ 12 := by rw [HX.out]; have := candK_len l rs l.length; omega
      have HXF := Lib.hid hxf
      clear hxf HX
      have hxm : ∀ x ∈ xs, ∃ i : Nat, i < l.length ∧ x = (i : Int) := fun x hx => by
        rw [HXF.out] at hx
        obtain ⟨z, hz, e, -⟩ := candI_mem.1 hx
        exact ⟨z.2, (List.getElem?_eq_some_iff.1 (zip_mem.1 hz)).1, e.symm⟩
      have HXM := Lib.hid hxm
      clear hxm
      have hbls : ¬ (Value.slice s5 xs.length c5).ownBlock = some bL := fun e => H.apart (i := 0) (j := 1) rfl rfl (by decide) (k := bL) rfl e
      have HST := Lib.hid (stable_any 53 (fun _ _ => rfl) #[.pointer (some ⟨bL, 0, none⟩)] (fun i k => Lib.compareInt l[k.toNat]!.loss l[i.toNat]!.loss) (befI l) (fun x y h => .inl (cmpI_lt.1 h)) (fun x y h hyx => by
          have h2 : ¬ l[y.toNat]!.loss < l[x.toNat]!.loss := fun h3 => h (cmpI_lt.2 h3)
          unfold befI; omega) (befI_trans l) (sa := s5) c5 (xs := xs) hxn (by rw [HXF.out]; exact candI_rising l rs) wr (H.at 1 rfl) (fun W x y hx hy hg => by
            obtain ⟨i, hi, rfl⟩ := HXM.out x hx
            obtain ⟨k, hk, rfl⟩ := HXM.out y hy
            have hB : Blk wr bL #[.slice sa l.length c] 30 := H.at 0 rfl
            have hB2 : Blk W bL #[.slice sa l.length c] 30 := (hg.block bL hB.lt (fun e => hbls e.symm)).trans hB
            have hlW : Lies W W.heap.size sa 7 l.length (fun j => ndC l[j]!) := fun j hj => by
              obtain ⟨b, o, e, hb, hc⟩ := (H.lies HL.out).at hj
              have hbs : ¬ (Value.slice s5 xs.length c5).ownBlock = some b := fun e => by
                have h1 := (H.own _ (List.mem_of_getElem? (show _ = _ from (rfl : [_, _][1]? = some _))) b e).resolve_right (fun h => h)
                omega
              refine ⟨b, o, e, Nat.lt_of_lt_of_le hb (Nat.le_trans H.size hg.size), fun m u hu => ?_⟩
              rw [← hc m u hu]
              exact World.cell?_of_block (hg.block b (Nat.lt_of_lt_of_le hb H.size) (fun e => hbs e.symm))
            have := best1_any (by omega) c hi hk bL W hB2 hlW
            simpa using this))
      go_wp2_with fail
      refine HST.out.mono ?_
      rintro _ we ⟨rfl, ts, htp, htr, hrow, hgr⟩
      clear HST hbls
      have H1 := H.grownAt 1 rfl hgr (.inr ⟨hrow, fun k hk => .inl hk⟩)
      clear H C
      have H := H1
      clear H1 hrow hgr
      simp only [List.set_cons_succ, List.set_cons_zero] at H
      have htl : ts.length = xs.length := htp.length_eq
      rw [← htl] at H ⊢
      have HTP := Lib.hid htp
      have HTR := Lib.hid htr
      have htn : ts.length ≤ 12 := by omega
      clear htp htr htl hxn
      skip
      try clear C
      try simp only [World.size_alloc, List.nil_append, List.cons_append, List.append_assoc] at H
      have C := H.cells
      try simp only [cellsOf, cellsM, apartOf, apartM, and_true] at C
      go_upto_region 10 with fail
      generalize hwb : World.alloc _ _ = w70
      replace H := HS.eqW hwb H.allocObj
      clear hwb
      simp only [List.nil_append, List.cons_append] at H
      generalize we.heap.size = bM at H ⊢
      have hnr := H.nilRow 3 1
      clear H
      have H := hnr
      clear hnr
      try simp only [List.nil_append, List.cons_append] at H
      skip
      try clear C
      try simp only [World.size_alloc, List.nil_append, List.cons_append, List.append_assoc] at H
      have C := H.cells
      try simp only [cellsOf, cellsM, apartOf, apartM, and_true] at C
      go_wp2_with fail
      go_loopw [11, 44] (fun u j wr => ∃ (k : Nat) (es : Array MapEntry) (ck : Nat) (M : List (P6 × Value)) (ys : List Int), j = .int .i64 k ∧ k ≤ ts.length ∧ Hid (MapG kP es ck M) ∧ Hid (∀ b, (getG b M).getD (.int .i64 0) = .int .i64 (min a (cntB l ts k b))) ∧ Hid (ys = takenP l a ts k) ∧ HS NoD w [.blk bL #[.slice sa l.length c] 30, .row (.slice s5 ts.length c5) 3 1 ts.length (ts.flatMap iC), .obj bM (.map es ck), .row u 3 1 ys.length (ys.flatMap iC)] wr) (fun _ j _ => ts.length - (intOf j).toNat)
      case atStart => exact ⟨0, #[], 0, [], [], rfl, Nat.zero_le _, MapG.nil kP, (show Hid _ from fun b => by simp [getG, cntB]; omega), (show Hid _ from rfl), H⟩
      case round =>
        clear H C
        obtain ⟨k, es, ck, M, ys, rfl, hk, HM, HV, HYS, H⟩ := hrel
        skip
        try clear C
        try simp only [World.size_alloc, List.nil_append, List.cons_append, List.append_assoc] at H
        have C := H.cells
        try simp only [cellsOf, cellsM, apartOf, apartM, and_true] at C
        by_cases hlt : k < ts.length
        · have hki : (k : Int) < ts.length := by omega
          have hk12 : (k : Int) ≤ 12 := by omega
          have hyl : ys.length ≤ 12 := by rw [HYS.out]; have := takenP_len l a ts k; omega
          obtain ⟨b, o, rfl, hb, hc⟩ := (H.rowLies 1 iC_len rfl rfl).at hlt
          have c0 : wr.cell? ⟨b, o + k * 1, none⟩ = some (.int .i64 ts[k]!) := hc 0 _ rfl
          rw [show o + k * 1 = o + k by omega] at c0
          obtain ⟨z, hz, he, -⟩ := candI_mem.1 (HXF.out ▸ HTP.out.mem_iff.1 (show ts[k]! ∈ ts by rw [getElem!_pos ts k hlt]; exact List.getElem_mem _))
          have hzl := (List.getElem?_eq_some_iff.1 (zip_mem.1 hz)).1
          have HTK := Lib.hid he.symm
          rw [← he] at c0
          obtain ⟨n, hn⟩ : ∃ n, n = z.2 := ⟨_, rfl⟩
          rw [← hn] at c0 hzl HTK
          clear he hz hc hb hn z
          have hni : (n : Int) < l.length := by omega
          obtain ⟨b3, o3, rfl, hb3, hc3⟩ := (H.lies HL.out).at hzl
          obtain ⟨q3, hq3⟩ : ∃ q, q = l[n]! := ⟨_, rfl⟩
          rw [← hq3] at hc3
          have HQ3 := Lib.hid hq3
          clear hq3
          have HRP := Lib.hid (fun W => pbank_any q3.p W)
          have HBK := Lib.hid (show bkI l ts[k]! = bankP q3.p from by rw [HTK.out]; unfold bkI; rw [Int.toNat_natCast, HQ3.out])
          obtain ⟨⟨p0, p1, p2, p3, p4, p5⟩, pl⟩ := q3
          have d0 : wr.cell? ⟨b3, o3 + n * 7, none⟩ = some (.int .i64 p0) := hc3 0 _ rfl
          have d1 : wr.cell? ⟨b3, o3 + n * 7 + 1, none⟩ = some (.int .i64 p1) := hc3 1 _ rfl
          have d2 : wr.cell? ⟨b3, o3 + n * 7 + 2, none⟩ = some (.int .i64 p2) := hc3 2 _ rfl
          have d3 : wr.cell? ⟨b3, o3 + n * 7 + 3, none⟩ = some (.int .i64 p3) := hc3 3 _ rfl
          have d4 : wr.cell? ⟨b3, o3 + n * 7 + 4, none⟩ = some (.int .i64 p4) := hc3 4 _ rfl
          have d5 : wr.cell? ⟨b3, o3 + n * 7 + 5, none⟩ = some (.int .i64 p5) := hc3 5 _ rfl
          have d6 : wr.cell? ⟨b3, o3 + n * 7 + 6, none⟩ = some (.int .i64 pl) := hc3 6 _ rfl
          clear hc3 hb3
          dsimp only at HRP HBK
          have HV0 := Lib.hid (HV.out (bankP ⟨p0, p1, p2, p3, p4, p5⟩))
          generalize bankP ⟨p0, p1, p2, p3, p4, p5⟩ = y at HRP HBK HV0
          replace HRP := Lib.hid (show ∀ W, Calls Try.prog 47 #[v6 p0 p1 p2 p3 p4 p5] W (Gives (v6 y.a y.b y.c y.d y.e y.f) W) from HRP.out)
          obtain ⟨n1, hn1⟩ : ∃ n1 : Int, n1 = min a (cntB l ts k y) := ⟨_, rfl⟩
          rw [← hn1] at HV0
          have hnb : 0 ≤ n1 ∧ n1 ≤ a := by omega
          have HN1 := Lib.hid hn1
          clear hn1
          go_wp2_with fail
          refine (HRP.out _).mono ?_
          rintro _ wc ⟨rfl, hb⟩
          replace H := H.below hb
          clear hb d0 d1 d2 d3 d4 d5 d6 c0
          skip
          try clear C
          try simp only [World.size_alloc, List.nil_append, List.cons_append, List.append_assoc] at H
          have C := H.cells
          try simp only [cellsOf, cellsM, apartOf, apartM, and_true] at C
          go_upto_region 15 with fail
          generalize hwb : wc.alloc _ = w3
          replace H := HS.eqW hwb H.alloc
          try simp only [World.size_alloc, List.nil_append, List.cons_append, List.append_assoc] at H
          clear hwb
          generalize wc.heap.size = bP at H ⊢
          try clear C
          try clear wc
          have C := H.cells
          try simp only [cellsOf, cellsM, apartOf, apartM, and_true] at C
          skip
          by_cases hna : n1 < a
          · have HNA := Lib.hid hna
            go_upto_region 16 with (at_lookup; refine wpList_lookup1_G rfl (.tmp 54) (.tmp 55) rfl HTpi keyP HEpi H 2 rfl HM.out rfl (n := y) rfl HV0.out ?_)
            refine wp_region_zH (by kernel_rfl) (by kernel_rfl) (by kernel_rfl) (by kernel_rfl) (by kernel_rfl) (by dsimp only [List.dropLast]) rfl (SMap kP NoD w (fun ob => [.blk bL #[.slice (some ⟨b3, o3, none⟩) l.length c] 30, .row (.slice (some ⟨b, o, none⟩) ts.length c5) 3 1 ts.length (ts.flatMap iC), .obj bM ob, .row u11 3 1 ys.length (ys.flatMap iC), .blk bP #[.int .i64 y.a, .int .i64 y.b, .int .i64 y.c, .int .i64 y.d, .int .i64 y.e, .int .i64 y.f] 39]) y (.int .i64 0) (.int .i64 n1)) (H) (fun w0 H _ => ⟨_, _, _, HM.out, HV0.out, H⟩) ?_
            clear H; intro w4 h0 H hz0
            try clear C
            try simp only [World.size_alloc, List.nil_append, List.cons_append, List.append_assoc] at H hz0
            clear hz0
            try clear w3
            have C := H.cells
            try simp only [cellsOf, cellsM, apartOf, apartM, and_true] at C
            repeat (first | (refine wpX_skip rfl ?_; go_simp) | (refine wpX_free rfl rfl rfl (fun K hK => ?_); go_step; refine hK _ _ ?_; clear hK K))
            refine wpX_yield rfl rfl (kP y) (fun w hw => by obtain ⟨es9, ck9, M9, h1, h2, H9⟩ := hw; have C := H9.cells; simp only [cellsOf, cellsM, apartOf, apartM, and_true] at C; unfold kP; go_simp) ?_
            go_simp
            repeat (first | (refine wpX_skip rfl ?_; go_simp) | (refine wpX_free rfl rfl rfl (fun K hK => ?_); go_step; refine hK _ _ ?_; clear hK K))
            refine wpX_lookup1_G rfl rfl (.tmp 59) (.tmp 60) rfl HTpi keyP HEpi (b := bM) (n := y) (v := .int .i64 n1) (fun w hw => by obtain ⟨es9, ck9, M9, h1, h2, H9⟩ := hw; exact ⟨es9, ck9, M9, H9.at 2 rfl, h1, h2⟩) rfl rfl ?_
            go_simp
            repeat (first | (refine wpX_skip rfl ?_; go_simp) | (refine wpX_free rfl rfl rfl (fun K hK => ?_); go_step; refine hK _ _ ?_; clear hK K))
            refine wpX_entry_G rfl rfl (.tmp 59) (.tmp 60) rfl HTpi keyP HEpi H 2 rfl HM.out rfl (n := y) rfl HV0.out (fun w8 es8 ck8 s8 hM8 hE8 H8 => ⟨⟨_, _, _, hM8, getG_putSelf _ _ _ _, H8⟩, ?_⟩)
            go_simp
            repeat (first | (refine wpX_skip rfl ?_; go_simp) | (refine wpX_free rfl rfl rfl (fun K hK => ?_); go_step; refine hK _ _ ?_; clear hK K))
            refine wpX_nil ?_
            refine wpList_estore_G rfl (.tmp 59) (.tmp 64) (.tmp 62) rfl keyP H8 2 rfl hM8 rfl (n := y) hE8 rfl rfl (fun w9 es9 hM9 H9 => ?_)
            simp only [List.set_cons_zero, List.set_cons_succ] at H9
            rw [putG_putG] at hM9
            have HM9 := Lib.hid hM9
            clear hM9 hM8 hE8 H8 H C
            have H := H9
            clear H9
            skip
            try clear C
            try simp only [World.size_alloc, List.nil_append, List.cons_append, List.append_assoc] at H
            have C := H.cells
            try simp only [cellsOf, cellsM, apartOf, apartM, and_true] at C
            go_wp2_with (at_builtin; refine wpList_append_H rfl (.tmp 65) (.tmp 67) 22 rfl elemI1 H.alloc 3 rfl rfl 5 rfl rfl rfl rfl (by decide) (by unfold maxLen; omega) (by omega) (fun g9 cap9 wz HZ9 => ?_); clear H C)
            go_roundw
            case rel =>
              refine ⟨k + 1, _, _, _, ys ++ [(n : Int)], by go_num, by omega, HM9, (show Hid _ from fun x => ?_), (show Hid _ from ?_), ?_⟩
              · rw [cntB_succ hlt, HBK.out, getG_put]
                have h2 := HN1.out
                have h3 := HNA.out
                by_cases e : x = y
                · subst e; rw [if_pos rfl, if_pos rfl]; show Value.int .i64 (n1 + 1) = _; congr 1; push_cast; omega
                · rw [if_neg e, if_neg (Ne.symm e), HV.out x]; simp
              · rw [takenP, if_pos (show ((ts.take k).countP (fun j => decide (bkI l j = bkI l ts[k]!)) : Int) < a from ?_), HYS.out, HTK.out]
                · trivial
                · rw [HBK.out]
                  have h2 := HN1.out
                  have h3 := HNA.out
                  unfold cntB at h2
                  omega
              · rw [List.length_append, List.flatMap_append]
                exact HS.less HZ9 (by repeat (first | exact .slnil | refine .cons_cons _ ?_ | refine .cons _ ?_))
            case measure => simp [intOf]; omega
          · have HNA := Lib.hid hna
            skip
            go_wp2_with (at_lookup; refine wpList_lookup1_G rfl (.tmp 54) (.tmp 55) rfl HTpi keyP HEpi H 2 rfl HM.out rfl (n := y) rfl HV0.out ?_)
            go_roundw
            case rel =>
              refine ⟨k + 1, _, _, _, ys, by go_num, by omega, HM, (show Hid _ from fun x => ?_), (show Hid _ from ?_), H.less (by repeat (first | exact .slnil | refine .cons_cons _ ?_ | refine .cons _ ?_))⟩
              · rw [cntB_succ hlt, HBK.out, HV.out x]
                have h2 := HN1.out
                have h3 := HNA.out
                by_cases e : y = x
                · subst e; rw [if_pos rfl]; congr 1; push_cast; omega
                · rw [if_neg e]; simp
              · rw [takenP, if_neg (show ¬ ((ts.take k).countP (fun j => decide (bkI l j = bkI l ts[k]!)) : Int) < a from ?_), HYS.out]
                · trivial
                · rw [HBK.out]
                  have h2 := HN1.out
                  have h3 := HNA.out
                  unfold cntB at h2
                  omega
            case measure => simp [intOf]; omega
        · skip
          have hkl : k = ts.length := by omega
          subst hkl
          obtain ⟨s6, c6, rfl⟩ := ownsRow_slice (H.at 3 rfl)
          have hyl : ys.length ≤ 12 := by rw [HYS.out]; have := takenP_len l a ts ts.length; omega
          go_wp2_with fail
          refine (sortZ_any (by omega) _ (H.at 3 rfl)).mono ?_
          rintro _ wf ⟨rfl, hrow, hgr⟩
          have H1 := H.grownAt 3 rfl hgr (.inr ⟨hrow, fun k hk => .inl hk⟩)
          clear H C
          have H := H1
          clear H1 hrow hgr
          simp only [List.set_cons_succ, List.set_cons_zero] at H
          have hout := taken_rows HOK.out.nn (HXF.out ▸ HTP.out) HTR.out (show (sortZ ys).Perm (takenP l a ts ts.length) from by rw [← HYS.out]; exact sortZ_perm ys) (sortZ_le ys)
          have hyn : ys.length = (sortZ ys).length := (sortZ_perm ys).length_eq.symm
          rw [hyn, hout] at H
          rw [hyn, hout]
          skip
          try clear C
          try simp only [World.size_alloc, List.nil_append, List.cons_append, List.append_assoc] at H
          have C := H.cells
          try simp only [cellsOf, cellsM, apartOf, apartM, and_true] at C
          dsimp only
          go_wp2_with fail
          go_ret
          exact H.givesS 3 rfl
end Go.Proofs.Ytdhnpjgnnfgklaa
