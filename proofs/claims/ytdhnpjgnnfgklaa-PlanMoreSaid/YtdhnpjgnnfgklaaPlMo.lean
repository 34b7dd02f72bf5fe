/- The statement PlanMore: its walk. -/
import Derived.Test.YtdhnpjgnnfgklaaPlY
namespace Go.Proofs.Ytdhnpjgnnfgklaa
set_option linter.unusedSimpArgs false
set_option linter.unusedVariables false
open Go.RowKit
set_option maxRecDepth 100000
attribute [local irreducible] wpX wpF Calls
attribute [local go_sem] run_mkMapG

theorem HTpb : Try.prog.underlying 42 = some (.map 39 4) := Try.underlying42
theorem HEpb (w : World) : (zeroValue 4).run Try.prog w = .ok (.bool false) w := by kernel_rfl
def GivesQ (R : PlR) (w : World) (e : Ending) (w' : World) : Prop :=
  ∃ (sk : Option Addr) (ck : Nat) (sr : Option Addr) (cr : Nat), e = .returned (.tuple #[.agg #[.slice sr R.rows.length cr, .slice sk R.ranks.length ck, .int .i64 R.saved], .int .i64 0]) ∧ Below w.heap.size w w'
theorem bestQ {s0 s1 s2 s3 s4 s5 : Int} {l : List Nd} (hv : validN ⟨s0, s1, s2, s3, s4, s5⟩ l) (hl8 : l.length ≤ 8) {c : Nat} (hc : l.length ≤ c) {a b : Int} (hf : (0 ≤ a ∧ a ≤ 12) ∧ 0 ≤ b ∧ b ≤ 12) {R : PlR} (hR : R = bestP l a b) (sa : Option Addr) (w : World) (hl : Lies w w.heap.size sa 7 l.length (fun j => ndC l[j]!)) :
    Calls Try.prog 13 #[v6 s0 s1 s2 s3 s4 s5, .slice sa l.length c, .int .i64 a, .int .i64 b] w (GivesQ R w) := by
  have h := pBest_any s0 s1 s2 s3 s4 s5 (sa := sa) c (l := l) (by omega) hc a b w hl
  rw [show bestV ⟨s0, s1, s2, s3, s4, s5⟩ l a b = (R, 0) from by unfold bestV; rw [if_pos hv, if_pos hf, hR]] at h
  refine h.mono ?_
  rintro _ w' ⟨sk, ck, sr, cr, rfl, K⟩
  exact ⟨sk, ck, sr, cr, rfl, K.done⟩
theorem lossAll_succ {l : List Nd} {k : Nat} (hk : k < l.length) : lossAll (l.take (k + 1)) = lossAll (l.take k) + l[k]!.loss := by
  unfold lossAll
  rw [List.take_add_one, List.getElem?_eq_getElem hk, sumOn_append, getElem!_pos l k hk]
  simp [sumOn]
theorem lossAll_take {s : P6} {l : List Nd} (h : NdsOk s l) (hl : l.length ≤ 8) : ∀ k : Nat, 0 ≤ lossAll (l.take k) ∧ lossAll (l.take k) ≤ 10000 := by
  have main : ∀ k, k ≤ l.length → 0 ≤ lossAll (l.take k) ∧ lossAll (l.take k) ≤ k * 999 := by
    intro k
    induction k with
    | zero => intro _; simp [lossAll, sumOn]
    | succ k ih =>
      intro hk
      have h1 := ih (by omega)
      have h2 := h k (by omega)
      unfold goodN at h2
      rw [lossAll_succ (by omega)]
      have h3 := h2.1.2.2.1
      have h4 := h2.2
      push_cast; omega
  intro k
  by_cases hk : k ≤ l.length
  · have := main k hk; omega
  · rw [List.take_of_length_le (by omega), ← List.take_length (l := l)]
    have := main l.length (Nat.le_refl _); omega
theorem lossAll_le {s : P6} {l : List Nd} (h : NdsOk s l) (hl : l.length ≤ 8) : lossAll l ≤ 10000 := by
  have := (lossAll_take h hl l.length).2
  rwa [List.take_length] at this
theorem doneG_bound {l : List Nd} (h : NonNeg l) (a : Int) (bs : List P6) : 0 ≤ doneG a l bs ∧ doneG a l bs ≤ lossAll l := by
  unfold doneG
  refine ⟨sumOn_nonneg fun z hz => h.z z hz, ?_⟩
  unfold lossAll
  rw [← sum_zip (fun _ => true) Nd.loss 0]
  refine sumOn_le fun z hz => ?_
  have := h.z z hz
  simp only [if_true]
  unfold lossZ at *
  split <;> omega
theorem more_facts {l : List Nd} (h : NonNeg l) (hl : l.length ≤ 8) (a b : Int) : (bestP l a b).saved ≤ (bestP l (a + 1) b).saved ∧ (bestP l a b).saved ≤ (bestP l a (b + 1)).saved ∧ (bestP l 12 0).saved = lossAll l ∧ (bestP l 0 12).saved = lossAll l ∧ (bestP l 12 0).ranks.length = 0 ∧ (bestP l 0 12).rows.length = 0 :=
  ⟨more_rows h a b, more_ranks h a b, enough_rows h (by omega), enough_ranks h (by omega), by rw [no_ranks h]; rfl, by rw [no_rows h]; rfl⟩
theorem filter_take {l : List Nd} {i : Nat} (p : Nd → Bool) (hi : i < l.length) : (l.take (i + 1)).filter p = (l.take i).filter p ++ if p l[i]! = true then [l[i]!] else [] := by
  rw [List.take_add_one, List.getElem?_eq_getElem hi, List.filter_append, getElem!_pos l i hi]
  simp only [Option.toList_some, List.filter_cons, List.filter_nil]
theorem validN.filter {s : P6} {l : List Nd} (h : validN s l) (p : Nd → Bool) : validN s (l.filter p) := by
  have h1 : ∀ x ∈ l, PV s.a s.b s.c s.d s.e s.f x.p.a x.p.b x.p.c x.p.d x.p.e x.p.f ∧ x.p.f = 0 ∧ 0 ≤ x.loss ∧ x.loss ≤ 1099511627776 := fun x hx => by
    obtain ⟨i, hi, rfl⟩ := List.getElem_of_mem hx
    have := h.2.2 i hi
    unfold goodN at this
    rw [getElem!_pos l i hi] at this
    exact ⟨this.1, this.2.1, this.2.2.1, this.2.2.2.1⟩
  have h2 : l.Pairwise fun x y => x.p ≠ y.p := List.pairwise_iff_getElem.2 fun i j hi hj hij => by
    have := h.2.2 j hj
    unfold goodN at this
    have h3 := this.2.2.2.2 _ (takeN_mem hij hi)
    rwa [getElem!_pos l j hj, getElem!_pos l i hi] at h3
  have h3 := h2.filter p
  refine ⟨h.1, Nat.le_trans (List.length_filter_le _ _) h.2.1, fun i hi => ?_⟩
  have h4 := h1 ((l.filter p)[i]) ((List.mem_filter.1 (List.getElem_mem hi)).1)
  unfold goodN
  rw [getElem!_pos (l.filter p) i hi]
  refine ⟨h4.1, h4.2.1, h4.2.2.1, h4.2.2.2, fun x hx => ?_⟩
  obtain ⟨k, hk, hkl, rfl⟩ := mem_takeN hx
  rw [getElem!_pos (l.filter p) k hkl]
  exact List.pairwise_iff_getElem.1 h3 k i hkl hi hk
set_option maxHeartbeats 64000000 in
theorem pmore_walk (sa : Option Addr) (len cap : Nat) (hl : len ≤ maxLen) (n1 n2 : Int) (w : World) (hI : Ints w sa len) :
    Calls Try.prog 3 #[.slice sa len cap, .int .i64 n1, .int .i64 n2] w (Gives (.bool true) w) := by
  have HI := Lib.hid hI
  clear hI
  have hli := light_any sa len cap hl
  clear hl
  have HAW := Lib.hid awake39_any
  by_cases h400 : len ≤ 400
  · rw [decide_eq_true h400] at hli
    have HLI := Lib.hid hli
    clear hli
    go_enter Try.func3, Try.ntmps3
    have H := HS.start NoD w
    go_wp2_with fail
    refine (gives_of39 (HLI.out _)).mono ?_
    rintro _ w1 ⟨rfl, hb⟩
    replace H := H.below hb
    clear hb
    try clear C
    try simp only [World.size_alloc, List.nil_append, List.cons_append, List.append_assoc] at H
    have C := H.cells
    try simp only [cellsOf, cellsM, apartOf, apartM, and_true] at C
    dsimp only
    go_wp2_with fail
    refine (roll_at w.heap.size _ _ _ h400 _ H.size (H.ints HI.out)).mono ?_
    rintro _ w2 ⟨bd, rfl, hd, hb, hbb⟩
    replace H := H.getsDice hb hd hbb (Nat.le_refl _)
    clear hb hd hbb
    try clear C
    try simp only [World.size_alloc, List.nil_append, List.cons_append, List.append_assoc] at H
    try clear w1
    have C := H.cells
    try simp only [cellsOf, cellsM, apartOf, apartM, and_true] at C
    dsimp only
    go_wp2_with fail
    refine (mshape_any w.heap.size bd _ (H.at 0 rfl) H.size).mono ?_
    rintro _ w3 ⟨s0, s1, s2, s4, rfl, hms, hd, hg⟩
    replace H := (H).diceAt 0 rfl hg hd
    clear hg hd
    try clear C
    try simp only [World.size_alloc, List.nil_append, List.cons_append, List.append_assoc] at H
    try clear w2
    have C := H.cells
    try simp only [cellsOf, cellsM, apartOf, apartM, and_true] at C
    dsimp only
    have HSV := Lib.hid hms.sv
    clear hms
    go_upto_region 5 with fail
    generalize hwb : w3.alloc _ = w4
    replace H := HS.eqW hwb H.alloc
    try simp only [World.size_alloc, List.nil_append, List.cons_append, List.append_assoc] at H
    clear hwb
    generalize w3.heap.size = bS at H ⊢
    try clear C
    try clear w3
    have C := H.cells
    try simp only [cellsOf, cellsM, apartOf, apartM, and_true] at C
    go_wp2_with fail
    refine (mneeds_any HSV.out w.heap.size bd _ (H.at 0 rfl) H.size).mono ?_
    rintro _ w42 ⟨l, s7, c7, rfl, hok, hl8, K⟩
    replace H := H.joinDice 0 rfl K (one_low rfl)
    clear K
    try simp only [List.nil_append, List.cons_append] at H
    skip
    try clear C
    try simp only [World.size_alloc, List.nil_append, List.cons_append, List.append_assoc] at H
    have C := H.cells
    try simp only [cellsOf, cellsM, apartOf, apartM, and_true] at C
    dsimp only
    have HOK := Lib.hid hok
    have HVL := Lib.hid (hok.valid HSV.out hl8)
    have hc7 : l.length ≤ c7 := row_capN (H.at 2 rfl)
    clear hok
    obtain ⟨x1, hx1⟩ : ∃ x, x = modF n1 4 := ⟨_, rfl⟩
    obtain ⟨x2, hx2⟩ : ∃ x, x = modF n2 3 := ⟨_, rfl⟩
    have hb1 : 0 ≤ x1 ∧ x1 ≤ 3 := by have := modF_in (n := n1) (m := 4) (by omega) (by omega); omega
    have hb2 : 0 ≤ x2 ∧ x2 ≤ 2 := by have := modF_in (n := n2) (m := 3) (by omega) (by omega); omega
    have HM1 := Lib.hid (fun w => gives_of39 (mod_any n1 4 w))
    have HM2 := Lib.hid (fun w => gives_of39 (mod_any n2 3 w))
    rw [← hx1] at HM1
    rw [← hx2] at HM2
    clear hx1 hx2
    have HNN := Lib.hid HVL.out.loss.nn
    have HLA := Lib.hid (lossAll_le HOK.out hl8)
    go_wp2_with fail
    refine (HM1.out _).mono ?_
    rintro _ w5 ⟨rfl, hb⟩
    replace H := H.below hb
    clear hb
    try clear C
    try simp only [World.size_alloc, List.nil_append, List.cons_append, List.append_assoc] at H
    try clear w42
    have C := H.cells
    try simp only [cellsOf, cellsM, apartOf, apartM, and_true] at C
    dsimp only
    go_wp2_with fail
    refine (HM2.out _).mono ?_
    rintro _ w6 ⟨rfl, hb⟩
    replace H := H.below hb
    clear hb
    try clear C
    try simp only [World.size_alloc, List.nil_append, List.cons_append, List.append_assoc] at H
    try clear w5
    have C := H.cells
    try simp only [cellsOf, cellsM, apartOf, apartM, and_true] at C
    dsimp only
    have H9 := HS.less (L' := [.blk bS #[.int .i64 s0, .int .i64 s1, .int .i64 s2, .int .i64 1, .int .i64 s4, .int .i64 2] 28, .row (.slice s7 l.length c7) 41 7 l.length (l.flatMap ndC)]) H (by repeat (first | exact .slnil | refine .cons_cons _ ?_ | refine .cons _ ?_))
    clear H C HM1 HM2
    have H := H9
    clear H9
    try clear C
    try simp only [World.size_alloc, List.nil_append, List.cons_append, List.append_assoc] at H
    have C := H.cells
    try simp only [cellsOf, cellsM, apartOf, apartM, and_true] at C
    obtain ⟨R0, hR0⟩ : ∃ R, R = bestP l x1 x2 := ⟨_, rfl⟩
    have HB0 := Lib.hid (bestQ HVL.out hl8 hc7 (a := x1) (b := x2) ⟨⟨by omega, by omega⟩, by omega, by omega⟩ hR0)
    have HR0 := Lib.hid hR0
    clear hR0
    go_wp2_with fail
    refine (HB0.out s7 _ (H.rowLies 1 ndC_len rfl rfl)).mono ?_
    rintro _ w61 ⟨sk0, ck0, sr0, cr0, rfl, hb⟩
    replace H := H.below hb
    clear hb
    skip
    try clear C
    try simp only [World.size_alloc, List.nil_append, List.cons_append, List.append_assoc] at H
    have C := H.cells
    try simp only [cellsOf, cellsM, apartOf, apartM, and_true] at C
    dsimp only
    go_upto_region 8 with fail
    generalize hwb : w61.alloc _ = w7
    replace H := HS.eqW hwb H.alloc
    try simp only [World.size_alloc, List.nil_append, List.cons_append, List.append_assoc] at H
    clear hwb
    generalize w61.heap.size = bA at H ⊢
    try clear C
    try clear w61
    have C := H.cells
    try simp only [cellsOf, cellsM, apartOf, apartM, and_true] at C
    obtain ⟨R1, hR1⟩ : ∃ R, R = bestP l (x1 + 1) x2 := ⟨_, rfl⟩
    have HB1 := Lib.hid (bestQ HVL.out hl8 hc7 (a := (x1 + 1)) (b := x2) ⟨⟨by omega, by omega⟩, by omega, by omega⟩ hR1)
    have HR1 := Lib.hid hR1
    clear hR1
    go_wp2_with fail
    refine (HB1.out s7 _ (H.rowLies 1 ndC_len rfl rfl)).mono ?_
    rintro _ w62 ⟨sk1, ck1, sr1, cr1, rfl, hb⟩
    replace H := H.below hb
    clear hb
    skip
    try clear C
    try simp only [World.size_alloc, List.nil_append, List.cons_append, List.append_assoc] at H
    have C := H.cells
    try simp only [cellsOf, cellsM, apartOf, apartM, and_true] at C
    dsimp only
    go_upto_region 9 with fail
    generalize hwb : w62.alloc _ = w8
    replace H := HS.eqW hwb H.alloc
    try simp only [World.size_alloc, List.nil_append, List.cons_append, List.append_assoc] at H
    clear hwb
    generalize w62.heap.size = bB at H ⊢
    try clear C
    try clear w62
    have C := H.cells
    try simp only [cellsOf, cellsM, apartOf, apartM, and_true] at C
    obtain ⟨R2, hR2⟩ : ∃ R, R = bestP l x1 (x2 + 1) := ⟨_, rfl⟩
    have HB2 := Lib.hid (bestQ HVL.out hl8 hc7 (a := x1) (b := (x2 + 1)) ⟨⟨by omega, by omega⟩, by omega, by omega⟩ hR2)
    have HR2 := Lib.hid hR2
    clear hR2
    go_wp2_with fail
    refine (HB2.out s7 _ (H.rowLies 1 ndC_len rfl rfl)).mono ?_
    rintro _ w63 ⟨sk2, ck2, sr2, cr2, rfl, hb⟩
    replace H := H.below hb
    clear hb
    skip
    try clear C
    try simp only [World.size_alloc, List.nil_append, List.cons_append, List.append_assoc] at H
    have C := H.cells
    try simp only [cellsOf, cellsM, apartOf, apartM, and_true] at C
    dsimp only
    go_upto_region 10 with fail
    generalize hwb : w63.alloc _ = w9
    replace H := HS.eqW hwb H.alloc
    try simp only [World.size_alloc, List.nil_append, List.cons_append, List.append_assoc] at H
    clear hwb
    generalize w63.heap.size = bC at H ⊢
    try clear C
    try clear w63
    have C := H.cells
    try simp only [cellsOf, cellsM, apartOf, apartM, and_true] at C
    obtain ⟨R3, hR3⟩ : ∃ R, R = bestP l 12 0 := ⟨_, rfl⟩
    have HB3 := Lib.hid (bestQ HVL.out hl8 hc7 (a := 12) (b := 0) ⟨⟨by omega, by omega⟩, by omega, by omega⟩ hR3)
    have HR3 := Lib.hid hR3
    clear hR3
    go_wp2_with fail
    refine (HB3.out s7 _ (H.rowLies 1 ndC_len rfl rfl)).mono ?_
    rintro _ w64 ⟨sk3, ck3, sr3, cr3, rfl, hb⟩
    replace H := H.below hb
    clear hb
    skip
    try clear C
    try simp only [World.size_alloc, List.nil_append, List.cons_append, List.append_assoc] at H
    have C := H.cells
    try simp only [cellsOf, cellsM, apartOf, apartM, and_true] at C
    dsimp only
    go_upto_region 11 with fail
    generalize hwb : w64.alloc _ = w10
    replace H := HS.eqW hwb H.alloc
    try simp only [World.size_alloc, List.nil_append, List.cons_append, List.append_assoc] at H
    clear hwb
    generalize w64.heap.size = bD at H ⊢
    try clear C
    try clear w64
    have C := H.cells
    try simp only [cellsOf, cellsM, apartOf, apartM, and_true] at C
    obtain ⟨R4, hR4⟩ : ∃ R, R = bestP l 0 12 := ⟨_, rfl⟩
    have HB4 := Lib.hid (bestQ HVL.out hl8 hc7 (a := 0) (b := 12) ⟨⟨by omega, by omega⟩, by omega, by omega⟩ hR4)
    have HR4 := Lib.hid hR4
    clear hR4
    go_wp2_with fail
    refine (HB4.out s7 _ (H.rowLies 1 ndC_len rfl rfl)).mono ?_
    rintro _ w65 ⟨sk4, ck4, sr4, cr4, rfl, hb⟩
    replace H := H.below hb
    clear hb
    skip
    try clear C
    try simp only [World.size_alloc, List.nil_append, List.cons_append, List.append_assoc] at H
    have C := H.cells
    try simp only [cellsOf, cellsM, apartOf, apartM, and_true] at C
    dsimp only
    go_upto_region 12 with fail
    generalize hwb : w65.alloc _ = w11
    replace H := HS.eqW hwb H.alloc
    try simp only [World.size_alloc, List.nil_append, List.cons_append, List.append_assoc] at H
    clear hwb
    generalize w65.heap.size = bE at H ⊢
    try clear C
    try clear w65
    have C := H.cells
    try simp only [cellsOf, cellsM, apartOf, apartM, and_true] at C
    have HF := Lib.hid (more_facts HNN.out hl8 x1 x2)
    rw [← HR0.out, ← HR1.out, ← HR2.out, ← HR3.out, ← HR4.out] at HF
    go_wp2_with fail
    go_loopw [22, 92] (fun tt jj wr => ∃ (t : Int) (j : Nat), tt = .int .i64 t ∧ jj = .int .i64 j ∧ j ≤ l.length ∧ Hid (t = lossAll (l.take j)) ∧ HS NoD w [.blk bS #[.int .i64 s0, .int .i64 s1, .int .i64 s2, .int .i64 1, .int .i64 s4, .int .i64 2] 28, .row (.slice s7 l.length c7) 41 7 l.length (l.flatMap ndC), .blk bA #[.slice sr0 R0.rows.length cr0, .slice sk0 R0.ranks.length ck0, .int .i64 R0.saved] 35, .blk bB #[.slice sr1 R1.rows.length cr1, .slice sk1 R1.ranks.length ck1, .int .i64 R1.saved] 35, .blk bC #[.slice sr2 R2.rows.length cr2, .slice sk2 R2.ranks.length ck2, .int .i64 R2.saved] 35, .blk bD #[.slice sr3 R3.rows.length cr3, .slice sk3 R3.ranks.length ck3, .int .i64 R3.saved] 35, .blk bE #[.slice sr4 R4.rows.length cr4, .slice sk4 R4.ranks.length ck4, .int .i64 R4.saved] 35] wr) (fun _ jj _ => l.length - (intOf jj).toNat)
    case atStart => exact ⟨0, 0, rfl, rfl, Nat.zero_le _, (show Hid _ from rfl), H⟩
    case round =>
      clear H C
      obtain ⟨t, j, rfl, rfl, hj, HT, H⟩ := hrel
      skip
      try clear C
      try simp only [World.size_alloc, List.nil_append, List.cons_append, List.append_assoc] at H
      have C := H.cells
      try simp only [cellsOf, cellsM, apartOf, apartM, and_true] at C
      by_cases hlt : j < l.length
      · have hji : (j : Int) < l.length := by omega
        have htb : 0 ≤ t ∧ t ≤ 10000 := by rw [HT.out]; exact lossAll_take HOK.out hl8 j
        obtain ⟨b, o, rfl, hb, hc⟩ := (H.rowLies 1 ndC_len rfl rfl).at hlt
        obtain ⟨q, hq⟩ : ∃ q, q = l[j]! := ⟨_, rfl⟩
        rw [← hq] at hc
        have HQ := Lib.hid hq
        clear hq
        have hq0 := (HOK.out j hlt)
        unfold goodN at hq0
        rw [← HQ.out] at hq0
        have hlo : 0 ≤ q.loss ∧ q.loss ≤ 999 := ⟨hq0.1.2.2.1, hq0.2⟩
        clear hq0
        have HTK := Lib.hid (lossAll_succ hlt)
        rw [← HQ.out] at HTK
        obtain ⟨⟨p0, p1, p2, p3, p4, p5⟩, pl⟩ := q
        have c0 : wr.cell? ⟨b, o + j * 7, none⟩ = some (.int .i64 p0) := hc 0 _ rfl
        have c1 : wr.cell? ⟨b, o + j * 7 + 1, none⟩ = some (.int .i64 p1) := hc 1 _ rfl
        have c2 : wr.cell? ⟨b, o + j * 7 + 2, none⟩ = some (.int .i64 p2) := hc 2 _ rfl
        have c3 : wr.cell? ⟨b, o + j * 7 + 3, none⟩ = some (.int .i64 p3) := hc 3 _ rfl
        have c4 : wr.cell? ⟨b, o + j * 7 + 4, none⟩ = some (.int .i64 p4) := hc 4 _ rfl
        have c5 : wr.cell? ⟨b, o + j * 7 + 5, none⟩ = some (.int .i64 p5) := hc 5 _ rfl
        have c6 : wr.cell? ⟨b, o + j * 7 + 6, none⟩ = some (.int .i64 pl) := hc 6 _ rfl
        clear hc hb
        dsimp only at hlo HTK
        go_upto_region 16 with fail
        clear c0 c1 c2 c3 c4 c5 c6
        generalize hwb : wr.alloc _ = w12
        replace H := HS.eqW hwb H.alloc
        try simp only [World.size_alloc, List.nil_append, List.cons_append, List.append_assoc] at H
        clear hwb
        generalize wr.heap.size = b24 at H ⊢
        try clear C
        try clear wr
        have C := H.cells
        try simp only [cellsOf, cellsM, apartOf, apartM, and_true] at C
        go_wp2_with fail
        go_roundw
        case rel => exact ⟨t + pl, j + 1, by go_num, by go_num, by omega, (show Hid _ from by rw [HTK.out, HT.out]; rfl), H.less (by repeat (first | exact .slnil | refine .cons_cons _ ?_ | refine .cons _ ?_))⟩
        case measure => simp [intOf]; omega
      · have hjl : j = l.length := by omega
        subst hjl
        have htt := HT.out
        rw [List.take_length] at htt
        have hf := HF.out
        rw [← htt] at hf
        obtain ⟨f1, f2, f3, f4, f5, f6⟩ := hf
        have HTT := Lib.hid htt
        clear htt HT HF
        skip
        have g1 : ¬ R1.saved < R0.saved := by omega
        have g2 : ¬ R2.saved < R0.saved := by omega
        have g1d : decide (R1.saved < R0.saved) = false := decide_eq_false g1
        have g2d : decide (R2.saved < R0.saved) = false := decide_eq_false g2
        have f3b : (R3.saved != t) = false := by rw [f3]; simp
        have f3e : (R3.saved == t) = true := by rw [f3]; simp
        have f4b : (R4.saved != t) = false := by rw [f4]; simp
        have f4e : (R4.saved == t) = true := by rw [f4]; simp
        have F5 := Lib.hid f5
        have F6 := Lib.hid f6
        clear f1 f2 f3 f4 f5 f6
        have H9 := (show HS NoD w [.blk bS #[.int .i64 s0, .int .i64 s1, .int .i64 s2, .int .i64 1, .int .i64 s4, .int .i64 2] 28, .row (.slice s7 l.length c7) 41 7 l.length (l.flatMap ndC), .blk bA #[.slice sr0 R0.rows.length cr0, .slice sk0 R0.ranks.length ck0, .int .i64 R0.saved] 35, .blk bB #[.slice sr1 R1.rows.length cr1, .slice sk1 R1.ranks.length ck1, .int .i64 R1.saved] 35, .blk bC #[.slice sr2 R2.rows.length cr2, .slice sk2 R2.ranks.length ck2, .int .i64 R2.saved] 35, .blk bD #[.slice sr3 R3.rows.length cr3, .slice sk3 0 ck3, .int .i64 R3.saved] 35, .blk bE #[.slice sr4 0 cr4, .slice sk4 R4.ranks.length ck4, .int .i64 R4.saved] 35] wr from by rw [F5.out, F6.out] at H; exact H)
        clear H
        have H := H9
        clear H9
        try clear C
        try simp only [World.size_alloc, List.nil_append, List.cons_append, List.append_assoc] at H
        have C := H.cells
        try simp only [cellsOf, cellsM, apartOf, apartM, and_true] at C
        go_upto_region 20 with fail
        clear g1 g2 g1d g2d f3b f3e f4b f4e C
        have H9 := HS.less (L' := [.blk bS #[.int .i64 s0, .int .i64 s1, .int .i64 s2, .int .i64 1, .int .i64 s4, .int .i64 2] 28, .row (.slice s7 l.length c7) 41 7 l.length (l.flatMap ndC)]) H (by repeat (first | exact .slnil | refine .cons_cons _ ?_ | refine .cons _ ?_))
        clear H
        have H := H9
        clear H9
        try clear C
        try simp only [World.size_alloc, List.nil_append, List.cons_append, List.append_assoc] at H
        have C := H.cells
        try simp only [cellsOf, cellsM, apartOf, apartM, and_true] at C
        obtain ⟨R5, hR5⟩ : ∃ R, R = bestP l x1 0 := ⟨_, rfl⟩
        have HB5 := Lib.hid (bestQ HVL.out hl8 hc7 (a := x1) (b := 0) ⟨⟨by omega, by omega⟩, by omega, by omega⟩ hR5)
        have HR5 := Lib.hid hR5
        clear hR5
        go_wp2_with fail
        refine (HB5.out s7 _ (H.rowLies 1 ndC_len rfl rfl)).mono ?_
        rintro _ w66 ⟨sk5, ck5, sr5, cr5, rfl, hb⟩
        replace H := H.below hb
        clear hb
        skip
        try clear C
        try simp only [World.size_alloc, List.nil_append, List.cons_append, List.append_assoc] at H
        have C := H.cells
        try simp only [cellsOf, cellsM, apartOf, apartM, and_true] at C
        dsimp only
        go_upto_region 21 with fail
        generalize hwb : w66.alloc _ = w13
        replace H := HS.eqW hwb H.alloc
        try simp only [World.size_alloc, List.nil_append, List.cons_append, List.append_assoc] at H
        clear hwb
        generalize w66.heap.size = bF at H ⊢
        try clear C
        try clear w66
        have C := H.cells
        try simp only [cellsOf, cellsM, apartOf, apartM, and_true] at C
        go_upto_region 22 with fail
        go_upto_region 23 with fail
        generalize hwb : World.alloc _ _ = w3
        replace H := HS.eqW hwb H.allocObj
        clear hwb
        simp only [List.nil_append, List.cons_append] at H
        generalize w13.heap.size = bM at H ⊢
        skip
        try clear C
        try simp only [World.size_alloc, List.nil_append, List.cons_append, List.append_assoc] at H
        have C := H.cells
        try simp only [cellsOf, cellsM, apartOf, apartM, and_true] at C
        go_wp2_with fail
        go_loopw [27, 167] (fun tt jj wr => ∃ (t : Int) (j : Nat) (bs : List P6) (es : Array MapEntry) (ck : Nat) (M : List (P6 × Value)), tt = .int .i64 t ∧ jj = .int .i64 j ∧ j ≤ l.length ∧ Hid (t = doneG x1 l bs) ∧ Hid (MapG kP es ck M) ∧ Hid (∀ x, (getG x M).getD (.bool false) = .bool (decide (x ∈ bs))) ∧ Hid (∀ k, k < j → bankP l[k]!.p ∈ bs) ∧ HS NoD w [.blk bS #[.int .i64 s0, .int .i64 s1, .int .i64 s2, .int .i64 1, .int .i64 s4, .int .i64 2] 28, .row (.slice s7 l.length c7) 41 7 l.length (l.flatMap ndC), .blk bF #[.slice sr5 R5.rows.length cr5, .slice sk5 R5.ranks.length ck5, .int .i64 R5.saved] 35, .obj bM (.map es ck)] wr) (fun _ jj _ => l.length - (intOf jj).toNat)
        case atStart => exact ⟨0, 0, [], #[], 0, [], rfl, rfl, Nat.zero_le _, (show Hid _ from (doneG_nil x1 l).symm), MapG.nil kP, (show Hid _ from fun x => by simp [getG]), (show Hid _ from fun k hk => absurd hk (Nat.not_lt_zero _)), H⟩
        case round =>
          clear H C
          obtain ⟨s, j, bs, es, ck, M, rfl, rfl, hj, HT, HM, HV, HA, H⟩ := hrel
          skip
          try clear C
          try simp only [World.size_alloc, List.nil_append, List.cons_append, List.append_assoc] at H
          have C := H.cells
          try simp only [cellsOf, cellsM, apartOf, apartM, and_true] at C
          by_cases hlt : j < l.length
          · have hji : (j : Int) < l.length := by omega
            have hsb : 0 ≤ s ∧ s ≤ 10000 := by
              rw [HT.out]
              have h1 := doneG_bound HNN.out x1 bs
              have h2 := HLA.out
              exact ⟨h1.1, by omega⟩
            obtain ⟨b, o, rfl, hb, hc⟩ := (H.rowLies 1 ndC_len rfl rfl).at hlt
            obtain ⟨q, hq⟩ : ∃ q, q = l[j]! := ⟨_, rfl⟩
            rw [← hq] at hc
            have HQ := Lib.hid hq
            clear hq
            have HRB := Lib.hid (fun W => rbank_any q.p W)
            obtain ⟨⟨p0, p1, p2, p3, p4, p5⟩, pl⟩ := q
            have c0 : wr.cell? ⟨b, o + j * 7, none⟩ = some (.int .i64 p0) := hc 0 _ rfl
            have c1 : wr.cell? ⟨b, o + j * 7 + 1, none⟩ = some (.int .i64 p1) := hc 1 _ rfl
            have c2 : wr.cell? ⟨b, o + j * 7 + 2, none⟩ = some (.int .i64 p2) := hc 2 _ rfl
            have c3 : wr.cell? ⟨b, o + j * 7 + 3, none⟩ = some (.int .i64 p3) := hc 3 _ rfl
            have c4 : wr.cell? ⟨b, o + j * 7 + 4, none⟩ = some (.int .i64 p4) := hc 4 _ rfl
            have c5 : wr.cell? ⟨b, o + j * 7 + 5, none⟩ = some (.int .i64 p5) := hc 5 _ rfl
            have c6 : wr.cell? ⟨b, o + j * 7 + 6, none⟩ = some (.int .i64 pl) := hc 6 _ rfl
            clear hc hb
            dsimp only at HRB
            obtain ⟨B, hB⟩ : ∃ B, B = bankP ⟨p0, p1, p2, p3, p4, p5⟩ := ⟨_, rfl⟩
            rw [← hB] at HRB
            have HBE := Lib.hid hB
            clear hB
            replace HRB := Lib.hid (show ∀ W, Calls Try.prog 14 #[v6 p0 p1 p2 p3 p4 p5] W (Gives (v6 B.a B.b B.c B.d B.e B.f) W) from HRB.out)
            have HV0 := Lib.hid (HV.out B)
            obtain ⟨t0, ht0⟩ : ∃ t, t = decide (B ∈ bs) := ⟨_, rfl⟩
            rw [← ht0] at HV0
            have HT0 := Lib.hid ht0
            clear ht0
            go_upto_region 26 with fail
            clear c0 c1 c2 c3 c4 c5 c6
            generalize hwb : wr.alloc _ = w14
            replace H := HS.eqW hwb H.alloc
            try simp only [World.size_alloc, List.nil_append, List.cons_append, List.append_assoc] at H
            clear hwb
            generalize wr.heap.size = b30 at H ⊢
            try clear C
            try clear wr
            have C := H.cells
            try simp only [cellsOf, cellsM, apartOf, apartM, and_true] at C
            go_wp2_with fail
            refine (HRB.out _).mono ?_
            rintro _ wb ⟨rfl, hb⟩
            replace H := H.below hb
            clear hb
            skip
            try clear C
            try simp only [World.size_alloc, List.nil_append, List.cons_append, List.append_assoc] at H
            have C := H.cells
            try simp only [cellsOf, cellsM, apartOf, apartM, and_true] at C
            dsimp only
            go_upto_region 27 with fail
            generalize hwb : wb.alloc _ = w15
            replace H := HS.eqW hwb H.alloc
            try simp only [World.size_alloc, List.nil_append, List.cons_append, List.append_assoc] at H
            clear hwb
            generalize wb.heap.size = b31 at H ⊢
            try clear C
            try clear wb
            have C := H.cells
            try simp only [cellsOf, cellsM, apartOf, apartM, and_true] at C
            skip
            cases t0 with
            | true =>
              have HTB := Lib.hid HT0.out
              go_wp2_with (at_lookup; refine wpList_lookup1_G rfl (.tmp 174) (.tmp 175) rfl HTpb keyP HEpb H 3 rfl HM.out rfl (n := B) rfl HV0.out ?_)
              go_roundw
              case rel =>
                refine ⟨s, j + 1, bs, es, ck, M, rfl, by go_num, by omega, HT, HM, HV, (show Hid _ from fun k hk => ?_), H.less (by repeat (first | exact .slnil | refine .cons_cons _ ?_ | refine .cons _ ?_))⟩
                by_cases e : k = j
                · subst e; rw [← HQ.out]; show bankP ⟨p0, p1, p2, p3, p4, p5⟩ ∈ bs; rw [← HBE.out]; exact of_decide_eq_true HTB.out.symm
                · exact HA.out k (by omega)
              case measure => simp [intOf]; omega
            | false =>
              have HTB := Lib.hid HT0.out
              skip
              go_wp2_with (first | (at_lookup; refine wpList_lookup1_G rfl (.tmp 174) (.tmp 175) rfl HTpb keyP HEpb H 3 rfl HM.out rfl (n := B) rfl HV0.out ?_) | (at_mapUpdate; refine wpList_update_G rfl (.tmp 177) (.tmp 178) (.const (.bool true)) rfl HTpb keyP H 3 rfl HM.out rfl (n := B) (u := .bool true) rfl rfl (fun wy es' c' hM' HZ => ?_); clear H C))
              go_upto_region 29 with fail
              simp only [List.set_cons_succ, List.set_cons_zero] at HZ
              have HM' := Lib.hid hM'
              have hnr := HZ.nilRow 41 7
              clear HZ hM'
              have H := hnr
              clear hnr
              try simp only [List.nil_append, List.cons_append] at H
              skip
              try clear C
              try simp only [World.size_alloc, List.nil_append, List.cons_append, List.append_assoc] at H
              have C := H.cells
              try simp only [cellsOf, cellsM, apartOf, apartM, and_true] at C
              go_wp2_with fail
              go_loopw [32, 181] (fun u ii wr => ∃ (i : Nat) (xs : List Nd), ii = .int .i64 i ∧ i ≤ l.length ∧ Hid (xs = (l.take i).filter fun x => decide (bankP x.p = B)) ∧ HS NoD w [.blk bS #[.int .i64 s0, .int .i64 s1, .int .i64 s2, .int .i64 1, .int .i64 s4, .int .i64 2] 28, .row (.slice (some ⟨b, o, none⟩) l.length c7) 41 7 l.length (l.flatMap ndC), .blk bF #[.slice sr5 R5.rows.length cr5, .slice sk5 R5.ranks.length ck5, .int .i64 R5.saved] 35, .obj bM (.map es' c'), .blk b30 #[.int .i64 p0, .int .i64 p1, .int .i64 p2, .int .i64 p3, .int .i64 p4, .int .i64 p5, .int .i64 pl] 41, .blk b31 #[.int .i64 B.a, .int .i64 B.b, .int .i64 B.c, .int .i64 B.d, .int .i64 B.e, .int .i64 B.f] 39, .row u 41 7 xs.length (xs.flatMap ndC)] wr) (fun _ ii _ => l.length - (intOf ii).toNat)
              case atStart => exact ⟨0, [], rfl, Nat.zero_le _, (show Hid _ from rfl), H⟩
              case round =>
                clear H C
                obtain ⟨i, xs, rfl, hi, HX, H⟩ := hrel
                skip
                try clear C
                try simp only [World.size_alloc, List.nil_append, List.cons_append, List.append_assoc] at H
                have C := H.cells
                try simp only [cellsOf, cellsM, apartOf, apartM, and_true] at C
                by_cases hlt2 : i < l.length
                · have hii : (i : Int) < l.length := by omega
                  have hxl : xs.length ≤ 8 := by rw [HX.out]; exact Nat.le_trans (List.length_filter_le _ _) (by rw [List.length_take]; omega)
                  obtain ⟨b2, o2, e0, hb2, hc2⟩ := (H.rowLies 1 ndC_len rfl rfl).at hlt2
                  cases e0
                  obtain ⟨q2, hq2⟩ : ∃ q, q = l[i]! := ⟨_, rfl⟩
                  rw [← hq2] at hc2
                  have HQ2 := Lib.hid hq2
                  clear hq2
                  have HTK := Lib.hid (filter_take (fun x : Nd => decide (bankP x.p = B)) hlt2)
                  rw [← HQ2.out] at HTK
                  have HRB2 := Lib.hid (fun W => rbank_any q2.p W)
                  obtain ⟨⟨q0, q1, q2, q3, q4, q5⟩, ql⟩ := q2
                  have d0 : wr.cell? ⟨b, o + i * 7, none⟩ = some (.int .i64 q0) := hc2 0 _ rfl
                  have d1 : wr.cell? ⟨b, o + i * 7 + 1, none⟩ = some (.int .i64 q1) := hc2 1 _ rfl
                  have d2 : wr.cell? ⟨b, o + i * 7 + 2, none⟩ = some (.int .i64 q2) := hc2 2 _ rfl
                  have d3 : wr.cell? ⟨b, o + i * 7 + 3, none⟩ = some (.int .i64 q3) := hc2 3 _ rfl
                  have d4 : wr.cell? ⟨b, o + i * 7 + 4, none⟩ = some (.int .i64 q4) := hc2 4 _ rfl
                  have d5 : wr.cell? ⟨b, o + i * 7 + 5, none⟩ = some (.int .i64 q5) := hc2 5 _ rfl
                  have d6 : wr.cell? ⟨b, o + i * 7 + 6, none⟩ = some (.int .i64 ql) := hc2 6 _ rfl
                  clear hc2 hb2
                  dsimp only at HTK HRB2
                  obtain ⟨Y, hY⟩ : ∃ Y, Y = bankP ⟨q0, q1, q2, q3, q4, q5⟩ := ⟨_, rfl⟩
                  rw [← hY] at HRB2 HTK
                  clear hY
                  have heq := fun w => eqlP Y B w
                  replace HRB2 := Lib.hid (show ∀ W, Calls Try.prog 14 #[v6 q0 q1 q2 q3 q4 q5] W (Gives (v6 Y.a Y.b Y.c Y.d Y.e Y.f) W) from HRB2.out)
                  replace heq := (show ∀ w, (binOp .eql 39 (v6 Y.a Y.b Y.c Y.d Y.e Y.f) (v6 B.a B.b B.c B.d B.e B.f)).run Try.prog w = .ok (.bool (decide (Y = B))) w from heq)
                  go_upto_region 33 with fail
                  clear d0 d1 d2 d3 d4 d5 d6
                  generalize hwb : wr.alloc _ = w16
                  replace H := HS.eqW hwb H.alloc
                  try simp only [World.size_alloc, List.nil_append, List.cons_append, List.append_assoc] at H
                  clear hwb
                  generalize wr.heap.size = b34 at H ⊢
                  try clear C
                  try clear wr
                  have C := H.cells
                  try simp only [cellsOf, cellsM, apartOf, apartM, and_true] at C
                  skip
                  by_cases he : Y = B
                  · rw [decide_eq_true he] at heq HTK
                    clear he
                    refine wp_region_xH (by kernel_rfl) (by kernel_rfl) (by kernel_rfl) (by kernel_rfl) (fun _ => False) (H) ?_
                    clear H; intro w17 H hz0 hs0
                    try clear C
                    try simp only [World.size_alloc, List.nil_append, List.cons_append, List.append_assoc] at H hz0
                    clear hz0
                    try clear w16
                    have C := H.cells
                    try simp only [cellsOf, cellsM, apartOf, apartM, and_true] at C
                    have Z := H.zs
                    try simp only [ltsOf, ltsM, and_true] at Z
                    have hz0 := Nat.le_refl w17.heap.size
                    repeat (first | (refine wpX_skip rfl ?_; go_simp) | (refine wpX_free rfl rfl rfl (fun K hK => ?_); go_step; refine hK _ _ ?_; clear hK K) | (refine wpX_load rfl rfl rfl (by simp [Stay, OneD, NoD, *]) hs0 (by simp [*]) (fun K hK => ?_); go_step; refine hK _ _ ?_; clear hK K))
                    refine wpX_eff rfl rfl (fun _ _ => ?_)
                    go_step
                    refine (HRB2.out _).mono ?_
                    rintro _ w18 ⟨rfl, hb⟩
                    replace hs0 := hs0.belowS hz0 hb
                    replace hz0 := Nat.le_trans hz0 hb.size
                    replace H := H.below hb
                    clear hb
                    try clear C
                    have C := H.cells
                    try simp only [cellsOf, cellsM, apartOf, apartM, and_true] at C
                    try clear w17
                    dsimp only
                    go_step
                    refine ⟨hs0, ?_⟩
                    repeat (first | (refine wpX_skip rfl ?_; go_simp) | (refine wpX_free rfl rfl rfl (fun K hK => ?_); go_step; refine hK _ _ ?_; clear hK K) | (refine wpX_load rfl rfl rfl (by simp [Stay, OneD, NoD, *]) hs0 (by simp [*]) (fun K hK => ?_); go_step; refine hK _ _ ?_; clear hK K))
                    (refine wpX_yield rfl rfl ((.bool true)) (fun w hw => by go_simp) ?_; go_simp)
                    repeat (first | (refine wpX_skip rfl ?_; go_simp) | (refine wpX_free rfl rfl rfl (fun K hK => ?_); go_step; refine hK _ _ ?_; clear hK K) | (refine wpX_load rfl rfl rfl (by simp [Stay, OneD, NoD, *]) hs0 (by simp [*]) (fun K hK => ?_); go_step; refine hK _ _ ?_; clear hK K))
                    (refine wpX_nil ?_; go_step)
                    clear heq
                    go_wp2_with (at_builtin; refine wpList_append_H rfl (.tmp 190) (.tmp 192) 30 rfl elemNd H.alloc 6 rfl rfl 8 rfl rfl rfl rfl (by decide) (by unfold maxLen; omega) (by omega) (fun g cap wz HZ9 => ?_); clear H C)
                    go_roundw
                    case rel =>
                      refine ⟨i + 1, xs ++ [(⟨⟨q0, q1, q2, q3, q4, q5⟩, ql⟩ : Nd)], by go_num, by omega, (show Hid _ from by rw [HTK.out, HX.out]; rfl), ?_⟩
                      rw [List.length_append, List.flatMap_append]
                      exact HS.less HZ9 (by repeat (first | exact .slnil | refine .cons_cons _ ?_ | refine .cons _ ?_))
                    case measure => simp [intOf]; omega
                  · rw [decide_eq_false he] at heq HTK
                    clear he
                    skip
                    refine wp_region_xH (by kernel_rfl) (by kernel_rfl) (by kernel_rfl) (by kernel_rfl) (fun _ => False) (H) ?_
                    clear H; intro w19 H hz0 hs0
                    try clear C
                    try simp only [World.size_alloc, List.nil_append, List.cons_append, List.append_assoc] at H hz0
                    clear hz0
                    try clear w16
                    have C := H.cells
                    try simp only [cellsOf, cellsM, apartOf, apartM, and_true] at C
                    have Z := H.zs
                    try simp only [ltsOf, ltsM, and_true] at Z
                    have hz0 := Nat.le_refl w19.heap.size
                    repeat (first | (refine wpX_skip rfl ?_; go_simp) | (refine wpX_free rfl rfl rfl (fun K hK => ?_); go_step; refine hK _ _ ?_; clear hK K) | (refine wpX_load rfl rfl rfl (by simp [Stay, OneD, NoD, *]) hs0 (by simp [*]) (fun K hK => ?_); go_step; refine hK _ _ ?_; clear hK K))
                    refine wpX_eff rfl rfl (fun _ _ => ?_)
                    go_step
                    refine (HRB2.out _).mono ?_
                    rintro _ w20 ⟨rfl, hb⟩
                    replace hs0 := hs0.belowS hz0 hb
                    replace hz0 := Nat.le_trans hz0 hb.size
                    replace H := H.below hb
                    clear hb
                    try clear C
                    have C := H.cells
                    try simp only [cellsOf, cellsM, apartOf, apartM, and_true] at C
                    try clear w19
                    dsimp only
                    go_step
                    refine ⟨hs0, ?_⟩
                    repeat (first | (refine wpX_skip rfl ?_; go_simp) | (refine wpX_free rfl rfl rfl (fun K hK => ?_); go_step; refine hK _ _ ?_; clear hK K) | (refine wpX_load rfl rfl rfl (by simp [Stay, OneD, NoD, *]) hs0 (by simp [*]) (fun K hK => ?_); go_step; refine hK _ _ ?_; clear hK K))
                    (refine wpX_yield rfl rfl ((.bool false)) (fun w hw => by go_simp) ?_; go_simp)
                    repeat (first | (refine wpX_skip rfl ?_; go_simp) | (refine wpX_free rfl rfl rfl (fun K hK => ?_); go_step; refine hK _ _ ?_; clear hK K) | (refine wpX_load rfl rfl rfl (by simp [Stay, OneD, NoD, *]) hs0 (by simp [*]) (fun K hK => ?_); go_step; refine hK _ _ ?_; clear hK K))
                    (refine wpX_nil ?_; go_step)
                    clear heq
                    go_wp2_with fail
                    go_roundw
                    case rel => exact ⟨i + 1, xs, by go_num, by omega, (show Hid _ from by rw [HTK.out, HX.out]; simp; trivial), H.less (by repeat (first | exact .slnil | refine .cons_cons _ ?_ | refine .cons _ ?_))⟩
                    case measure => simp [intOf]; omega
                · skip
                  have hil : i = l.length := by omega
                  subst hil
                  obtain ⟨s9, c9, rfl⟩ := ownsRow_slice (H.at 6 rfl)
                  have hxx := HX.out
                  rw [List.take_length] at hxx
                  have hxl : xs.length ≤ 8 := by rw [hxx]; exact Nat.le_trans (List.length_filter_le _ _) hl8
                  have HVX := Lib.hid (show validN ⟨s0, s1, s2, 1, s4, 2⟩ xs from by rw [hxx]; exact HVL.out.filter _)
                  have hc9 : xs.length ≤ c9 := row_capN (H.at 6 rfl)
                  obtain ⟨Rx, hRx⟩ : ∃ R, R = bestP xs x1 0 := ⟨_, rfl⟩
                  have HBX := Lib.hid (bestQ HVX.out hxl hc9 (a := x1) (b := 0) ⟨⟨by omega, by omega⟩, by omega, by omega⟩ hRx)
                  have hrb : 0 ≤ Rx.saved ∧ Rx.saved ≤ 13194139533312 := by have h1 := (best_facts HVX.out.loss x1 0).1; rw [← hRx] at h1; omega
                  have HDG := Lib.hid (show doneG x1 l (bs ++ [B]) = s + Rx.saved from by rw [doneG_cons HNN.out x1 (of_decide_eq_false HTB.out.symm), hRx, hxx, HT.out])
                  clear hRx hxx HX
                  try clear C
                  try simp only [World.size_alloc, List.nil_append, List.cons_append, List.append_assoc] at H
                  have C := H.cells
                  try simp only [cellsOf, cellsM, apartOf, apartM, and_true] at C
                  go_wp2_with fail
                  refine (HBX.out s9 _ (H.rowLies 6 ndC_len rfl rfl)).mono ?_
                  rintro _ wh ⟨skX, ckX, srX, crX, rfl, hb⟩
                  replace H := H.below hb
                  clear hb
                  skip
                  try clear C
                  try simp only [World.size_alloc, List.nil_append, List.cons_append, List.append_assoc] at H
                  have C := H.cells
                  try simp only [cellsOf, cellsM, apartOf, apartM, and_true] at C
                  dsimp only
                  go_upto_region 37 with fail
                  generalize hwb : wh.alloc _ = w21
                  replace H := HS.eqW hwb H.alloc
                  try simp only [World.size_alloc, List.nil_append, List.cons_append, List.append_assoc] at H
                  clear hwb
                  generalize wh.heap.size = b35 at H ⊢
                  try clear C
                  try clear wh
                  have C := H.cells
                  try simp only [cellsOf, cellsM, apartOf, apartM, and_true] at C
                  go_wp2_with fail
                  go_roundw
                  case rel =>
                    refine ⟨s + Rx.saved, j + 1, bs ++ [B], es', c', _, by go_num, by go_num, by omega, (show Hid _ from HDG.out.symm), HM', (show Hid _ from fun x => ?_), (show Hid _ from fun k hk => ?_), H.less (by repeat (first | exact .slnil | refine .cons_cons _ ?_ | refine .cons _ ?_))⟩
                    · rw [getG_put]
                      by_cases e : x = B
                      · rw [if_pos e, decide_eq_true (by rw [e]; simp)]; rfl
                      · rw [if_neg e, HV.out x]
                        congr 2
                        simp [e]
                    · by_cases e : k = j
                      · subst e; rw [← HQ.out]; show bankP ⟨p0, p1, p2, p3, p4, p5⟩ ∈ bs ++ [B]; rw [← HBE.out]; simp
                      · exact List.mem_append_left _ (HA.out k (by omega))
                  case measure => simp [intOf]; omega
          · have hjl : j = l.length := by omega
            subst hjl
            have hse : R5.saved = s := by
              rw [HT.out, HR5.out]
              exact (doneG_all HNN.out x1 fun x hx => by
                obtain ⟨i, hi, rfl⟩ := List.getElem_of_mem hx
                have h1 := HA.out i hi
                rw [getElem!_pos l i hi] at h1
                exact h1).symm
            have hsb : (R5.saved == s) = true := by rw [hse]; simp
            clear hse
            skip
            go_wp2_with fail
            refine (HAW.out _).mono ?_
            rintro _ w22 ⟨rfl, hb⟩
            replace H := H.below hb
            clear hb
            try clear C
            try simp only [World.size_alloc, List.nil_append, List.cons_append, List.append_assoc] at H
            try clear wr
            have C := H.cells
            try simp only [cellsOf, cellsM, apartOf, apartM, and_true] at C
            dsimp only
            go_wp2_with fail
            go_ret
            exact ⟨rfl, H.done⟩
  · rw [decide_eq_false h400] at hli
    have HLI := Lib.hid hli
    clear hli
    go_enter Try.func3, Try.ntmps3
    have H := HS.start NoD w
    go_wp2_with fail
    refine (gives_of39 (HLI.out _)).mono ?_
    rintro _ w1 ⟨rfl, hb⟩
    replace H := H.below hb
    clear hb
    try clear C
    try simp only [World.size_alloc, List.nil_append, List.cons_append, List.append_assoc] at H
    have C := H.cells
    try simp only [cellsOf, cellsM, apartOf, apartM, and_true] at C
    dsimp only
    go_wp2_with fail
    refine (HAW.out _).mono ?_
    rintro _ w2 ⟨rfl, hb⟩
    replace H := H.below hb
    clear hb
    try clear C
    try simp only [World.size_alloc, List.nil_append, List.cons_append, List.append_assoc] at H
    try clear w1
    have C := H.cells
    try simp only [cellsOf, cellsM, apartOf, apartM, and_true] at C
    dsimp only
    go_wp2_with fail
    go_ret
    exact ⟨rfl, H.done⟩
end Go.Proofs.Ytdhnpjgnnfgklaa
