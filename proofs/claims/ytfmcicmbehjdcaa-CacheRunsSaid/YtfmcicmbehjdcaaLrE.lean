/- cache.Valid: which caches are valid, whatever lies in them. -/
import Derived.Test.YtfmcicmbehjdcaaLrD
namespace Go.Proofs.Ytfmcicmbehjdcaa
set_option linter.unusedSimpArgs false
set_option linter.unusedVariables false
open Go.RowKit
set_option maxRecDepth 100000
attribute [local irreducible] wpX wpF Calls

/-- The slots of a set. -/
def setOf {α : Type} (W : Nat) (l : List α) (s : Nat) : List α := (l.drop (s * W)).take W
def validB (sets ways size : Int) (l : List Sm) : Bool := sizedB sets ways size && decide ((l.length : Int) = sets * ways) && decide (∀ s, s < sets.toNat → rightB sets size s (setOf ways.toNat l s) = true)
theorem Lies.sub {w : World} {B b o k n : Nat} {f : Nat → List Value} (h : Lies w B (some ⟨b, o, none⟩) k n f) {lo m : Nat} (hm : lo + m ≤ n) : Lies w B (some ⟨b, o + lo * k, none⟩) k m (fun j => f (lo + j)) := fun j hj => by
  obtain ⟨b', o', e, h1, h2⟩ := h (lo + j) (by omega)
  obtain ⟨rfl, rfl⟩ : b = b' ∧ o = o' := by simpa using e
  refine ⟨b, _, rfl, h1, fun i u hu => ?_⟩
  rw [show o + lo * k + j * k + i = o + (lo + j) * k + i by rw [Nat.add_mul]; omega]
  exact h2 i u hu
theorem setOf_get {α : Type} [Inhabited α] {W s : Nat} {l : List α} (h : s * W + W ≤ l.length) {j : Nat} (hj : j < W) : (setOf W l s)[j]! = l[s * W + j]! := by
  unfold setOf
  rw [getElem!_pos _ j (by rw [List.length_take, List.length_drop]; omega), List.getElem_take, List.getElem_drop, getElem!_pos l _ (by omega)]
theorem setOf_len {α : Type} {W s : Nat} {l : List α} (h : s * W + W ≤ l.length) : (setOf W l s).length = W := by
  unfold setOf
  rw [List.length_take, List.length_drop]; omega
theorem setOf_map {α β : Type} (f : α → β) (W s : Nat) (l : List α) : (setOf W l s).map f = setOf W (l.map f) s := by
  unfold setOf
  rw [List.map_take, List.map_drop]
theorem set_in {S W s n : Nat} (hs : s < S) (hn : n = S * W) : s * W + W ≤ n := by
  rw [hn, show s * W + W = (s + 1) * W by rw [Nat.add_mul, Nat.one_mul]]
  exact Nat.mul_le_mul_right W hs
set_option maxHeartbeats 16000000 in
theorem cvalid_any (sets ways size : Int) (x : Sv) (qs : List Sw) (hx : x.n = qs.length) (hcap : CapOk x) (hlen : qs.length ≤ 1000000) (hln : ∀ j, j < qs.length → (qs[j]!).x.n = (qs[j]!).s.ln.bs.length) (w : World) (hl : Lies w w.heap.size x.sa 6 qs.length (fun j => swC qs[j]!)) :
    Calls Try.prog 17 #[caV sets ways size x] w (Gives (.bool (validB sets ways size (qs.map Sw.s))) w) := by
  obtain ⟨sa, n, c⟩ := x
  dsimp only at hx hl
  subst hx
  have HL := Lib.hid hl
  have HLN := Lib.hid hln
  have HCP := Lib.hid (show qs.length ≤ c from hcap.1)
  have HSZ := Lib.hid (fun w => csized_any sets ways size w)
  clear hl hln hcap
  show Calls Try.prog 17 #[.agg #[.int .i64 sets, .int .i64 ways, .int .i64 size, .slice sa qs.length c]] w _
  cases hsb : sizedB sets ways size
  case false =>
    have HNO := Lib.hid (show validB sets ways size (qs.map Sw.s) = false by simp [validB, hsb])
    rw [hsb] at HSZ
    clear hsb
    go_enter Try.func17, Try.ntmps17
    have H := HS.start NoD w
    go_upto_region 1 with fail
    generalize hwb : w.alloc _ = w1
    replace H := HS.eqW hwb H.alloc
    try simp only [World.size_alloc, List.nil_append, List.cons_append, List.append_assoc] at H
    clear hwb
    generalize w.heap.size = bX at H ⊢
    try clear C
    have C := H.cells
    try simp only [cellsOf, cellsM, apartOf, apartM, and_true] at C
    go_wp2_with fail
    refine (HSZ.out _).mono ?_
    rintro _ w2 ⟨rfl, hb⟩
    replace H := H.below hb
    clear hb
    try clear C
    try simp only [World.size_alloc, List.nil_append, List.cons_append, List.append_assoc] at H
    try clear w1
    have C := H.cells
    try simp only [cellsOf, cellsM, apartOf, apartM, and_true] at C
    dsimp only
    go_wp2_with fail
    go_ret
    exact ⟨by rw [HNO.out]; rfl, H.done⟩
  case true =>
    have hs2 := of_decide_eq_true hsb
    obtain ⟨S, rfl⟩ : ∃ S : Nat, sets = S := ⟨sets.toNat, by omega⟩
    obtain ⟨W, rfl⟩ : ∃ W : Nat, ways = W := ⟨ways.toNat, by omega⟩
    obtain ⟨N, hN⟩ : ∃ N, N = S * W := ⟨_, rfl⟩
    have hSW : (S : Int) * W = N := by rw [hN]; push_cast; rfl
    have hN32 : N ≤ 32 := by rw [hN]; exact Nat.le_trans (Nat.mul_le_mul (show S ≤ 8 by omega) (show W ≤ 4 by omega)) (by omega)
    have hwr : IntKind.i64.wrap ((S : Int) * W) = N := by rw [hSW]; exact IntWalk.i64_in _ (by omega)
    have HNN := Lib.hid hN
    have HSW := Lib.hid hSW
    have HSB := Lib.hid hsb
    rw [hsb] at HSZ
    clear hN hSW hsb
    have hS1 : 1 ≤ S := by omega
    have hS8 : S ≤ 8 := by omega
    have hW1 : 1 ≤ W := by omega
    have hW4 : W ≤ 4 := by omega
    clear hs2
    by_cases hnl : qs.length = N
    · have hnb : ((qs.length : Int) != (N : Int)) = false := by rw [hnl]; simp
      have HNL := Lib.hid hnl
      have hpos : 0 < qs.length := by
        rw [hnl, HNN.out]; exact Nat.mul_pos (by omega) (by omega)
      clear hnl
      obtain ⟨b, o, rfl, hbw, -⟩ := HL.out.at hpos
      clear hbw
      go_enter Try.func17, Try.ntmps17
      have H := HS.start NoD w
      go_upto_region 1 with fail
      generalize hwb : w.alloc _ = w1
      replace H := HS.eqW hwb H.alloc
      try simp only [World.size_alloc, List.nil_append, List.cons_append, List.append_assoc] at H
      clear hwb
      generalize w.heap.size = bX at H ⊢
      try clear C
      have C := H.cells
      try simp only [cellsOf, cellsM, apartOf, apartM, and_true] at C
      go_wp2_with fail
      refine (HSZ.out _).mono ?_
      rintro _ w2 ⟨rfl, hb⟩
      replace H := H.below hb
      clear hb
      try clear C
      try simp only [World.size_alloc, List.nil_append, List.cons_append, List.append_assoc] at H
      try clear w1
      have C := H.cells
      try simp only [cellsOf, cellsM, apartOf, apartM, and_true] at C
      dsimp only
      go_wp2_with fail
      go_loopw [25] (fun cc wr => ∃ i : Nat, cc = .int .i64 i ∧ i ≤ S ∧ Hid (∀ t, t < i → rightB S size t (setOf W (qs.map Sw.s) t) = true) ∧ HS NoD w [.blk bX #[.int .i64 S, .int .i64 W, .int .i64 size, .slice (some ⟨b, o, none⟩) qs.length c] 24] wr) (fun cc _ => S - (intOf cc).toNat)
      case atStart => exact ⟨0, rfl, Nat.zero_le _, (show Hid _ from fun t ht => absurd ht (Nat.not_lt_zero _)), H⟩
      case round =>
        clear H C
        obtain ⟨i, rfl, hi, HRA, H⟩ := hrel
        skip
        try clear C
        try simp only [World.size_alloc, List.nil_append, List.cons_append, List.append_assoc] at H
        have C := H.cells
        try simp only [cellsOf, cellsM, apartOf, apartM, and_true] at C
        by_cases hlt : i < S
        · have hli : (i : Int) < S := by omega
          have hin := set_in hlt HNN.out
          rw [← HNL.out] at hin
          obtain ⟨lo, hlo⟩ : ∃ lo, lo = i * W := ⟨_, rfl⟩
          have hlw : (i : Int) * W = lo := by rw [hlo]; push_cast; rfl
          have hhw : ((i : Int) + 1) * W = ((lo + W : Nat) : Int) := by rw [Int.add_mul, Int.one_mul, hlw]; push_cast; rfl
          rw [← hlo] at hin
          have hcc := HCP.out
          have hw1 : IntKind.i64.wrap ((i : Int) * W) = lo := by rw [hlw]; exact IntWalk.i64_in _ (by omega)
          obtain ⟨hi2, hie⟩ : ∃ h, h = lo + W := ⟨_, rfl⟩
          have hw2 : IntKind.i64.wrap (((i : Int) + 1) * W) = hi2 := by rw [hhw, hie]; exact IntWalk.i64_in _ (by omega)
          have hd1 : hi2 - lo = W := by omega
          have hd2 : (hi2 : Int) ≤ c := by omega
          have hd3 : lo ≤ hi2 := by omega
          have hd4 : (c = lo) = False := eq_false (by omega)
          have HIE := Lib.hid hie
          clear hie
          have HLO := Lib.hid hlo
          have HRC := Lib.hid (fun w (hl : Lies w w.heap.size (some ⟨b, o, none⟩) 6 qs.length (fun j => swC qs[j]!)) => cright_any S W size ⟨by omega, by omega⟩ i (by omega) ⟨some ⟨b, o, none⟩, qs.length, c⟩ ⟨some ⟨b, o + lo * 6, none⟩, W, c - lo⟩ (setOf W qs i) (setOf_len (by rw [← HLO.out]; exact hin)).symm (by rw [setOf_len (by rw [← HLO.out]; exact hin)]; exact hW4) (fun j hj => by
            rw [setOf_len (by rw [← HLO.out]; exact hin)] at hj
            rw [setOf_get (by rw [← HLO.out]; exact hin) hj]
            exact HLN.out _ (by rw [← HLO.out]; omega)) w (by
            rw [setOf_len (by rw [← HLO.out]; exact hin)]
            have h1 := hl.sub (lo := lo) (m := W) hin
            intro j hj
            obtain ⟨b', o', e, h2, h3⟩ := h1 j hj
            refine ⟨b', o', e, h2, fun t u hu => h3 t u ?_⟩
            have hu' : (swC (setOf W qs i)[j]!)[t]? = some u := hu
            rw [setOf_get (by rw [← HLO.out]; exact hin) hj, ← HLO.out] at hu'
            exact hu'))
          rw [setOf_map] at HRC
          have HRC2 := Lib.hid (fun w hl => (show Calls Try.prog 35 #[.agg #[.int .i64 S, .int .i64 W, .int .i64 size, .slice (some ⟨b, o, none⟩) qs.length c], .int .i64 (i : Int), .slice (some ⟨b, o + lo * 6, none⟩) W (c - lo)] w (Gives (.bool (rightB S size i (setOf W (qs.map Sw.s) i))) w) from HRC.out w hl))
          clear hlo hlw hhw HRC
          go_upto_region 6 with fail
          skip
          cases hr : rightB S size i (setOf W (qs.map Sw.s) i)
          case false =>
            have HNO := Lib.hid (show validB S W size (qs.map Sw.s) = false by
              unfold validB
              have hne : ¬ ∀ s, s < (S : Int).toNat → rightB S size s (setOf (W : Int).toNat (qs.map Sw.s) s) = true := fun hh => by
                have h1 := hh i (by simpa using hlt)
                simp only [Int.toNat_natCast] at h1
                rw [hr] at h1
                cases h1
              rw [decide_eq_false hne, Bool.and_false])
            rw [hr] at HRC2
            clear hr
            skip
            refine wp_region_xH (by kernel_rfl) (by kernel_rfl) (by kernel_rfl) (by kernel_rfl) (fun _ => False) (H) ?_
            clear H; intro w3 H hz0 hs0
            try clear C
            try simp only [World.size_alloc, List.nil_append, List.cons_append, List.append_assoc] at H hz0
            clear hz0
            try clear wr
            have C := H.cells
            try simp only [cellsOf, cellsM, apartOf, apartM, and_true] at C
            have Z := H.zs
            try simp only [ltsOf, ltsM, and_true] at Z
            have hz0 := Nat.le_refl w3.heap.size
            repeat (first | (refine wpX_skip rfl ?_; go_simp) | (refine wpX_free rfl rfl rfl (fun K hK => ?_); go_step; refine hK _ _ ?_; clear hK K) | (refine wpX_load rfl rfl rfl (by simp [Stay, OneD, NoD, *]) hs0 (by simp [*]) (fun K hK => ?_); go_step; refine hK _ _ ?_; clear hK K))
            (refine wpX_yield rfl rfl ((.slice (some ⟨b, o + lo * 6, none⟩) W (c - lo))) (fun w hw => by go_simp) ?_; go_simp)
            refine wpX_eff rfl rfl (fun _ _ => ?_)
            go_step
            refine (HRC2.out _ (H.liesUp HL.out)).mono ?_
            rintro _ w4 ⟨rfl, hb⟩
            replace hs0 := hs0.belowS hz0 hb
            replace hz0 := Nat.le_trans hz0 hb.size
            replace H := H.below hb
            clear hb
            try clear C
            have C := H.cells
            try simp only [cellsOf, cellsM, apartOf, apartM, and_true] at C
            try clear w3
            dsimp only
            go_step
            refine ⟨hs0, ?_⟩
            repeat (first | (refine wpX_skip rfl ?_; go_simp) | (refine wpX_free rfl rfl rfl (fun K hK => ?_); go_step; refine hK _ _ ?_; clear hK K) | (refine wpX_load rfl rfl rfl (by simp [Stay, OneD, NoD, *]) hs0 (by simp [*]) (fun K hK => ?_); go_step; refine hK _ _ ?_; clear hK K))
            (refine wpX_nil ?_; go_step)
            go_wp2_with fail
            go_ret
            exact ⟨by rw [HNO.out]; rfl, H.done⟩
          case true =>
            have HRO := Lib.hid hr
            rw [hr] at HRC2
            clear hr
            skip
            refine wp_region_xH (by kernel_rfl) (by kernel_rfl) (by kernel_rfl) (by kernel_rfl) (fun _ => False) (H) ?_
            clear H; intro w5 H hz0 hs0
            try clear C
            try simp only [World.size_alloc, List.nil_append, List.cons_append, List.append_assoc] at H hz0
            clear hz0
            try clear wr
            have C := H.cells
            try simp only [cellsOf, cellsM, apartOf, apartM, and_true] at C
            have Z := H.zs
            try simp only [ltsOf, ltsM, and_true] at Z
            have hz0 := Nat.le_refl w5.heap.size
            repeat (first | (refine wpX_skip rfl ?_; go_simp) | (refine wpX_free rfl rfl rfl (fun K hK => ?_); go_step; refine hK _ _ ?_; clear hK K) | (refine wpX_load rfl rfl rfl (by simp [Stay, OneD, NoD, *]) hs0 (by simp [*]) (fun K hK => ?_); go_step; refine hK _ _ ?_; clear hK K))
            (refine wpX_yield rfl rfl ((.slice (some ⟨b, o + lo * 6, none⟩) W (c - lo))) (fun w hw => by go_simp) ?_; go_simp)
            refine wpX_eff rfl rfl (fun _ _ => ?_)
            go_step
            refine (HRC2.out _ (H.liesUp HL.out)).mono ?_
            rintro _ w6 ⟨rfl, hb⟩
            replace hs0 := hs0.belowS hz0 hb
            replace hz0 := Nat.le_trans hz0 hb.size
            replace H := H.below hb
            clear hb
            try clear C
            have C := H.cells
            try simp only [cellsOf, cellsM, apartOf, apartM, and_true] at C
            try clear w5
            dsimp only
            go_step
            refine ⟨hs0, ?_⟩
            repeat (first | (refine wpX_skip rfl ?_; go_simp) | (refine wpX_free rfl rfl rfl (fun K hK => ?_); go_step; refine hK _ _ ?_; clear hK K) | (refine wpX_load rfl rfl rfl (by simp [Stay, OneD, NoD, *]) hs0 (by simp [*]) (fun K hK => ?_); go_step; refine hK _ _ ?_; clear hK K))
            (refine wpX_nil ?_; go_step)
            go_wp2_with fail
            go_roundw
            case rel => exact ⟨i + 1, by go_num, by omega, (show Hid _ from fun t ht => by
              by_cases e : t = i
              · rw [e]; exact HRO.out
              · exact HRA.out t (by omega)), H⟩
            case measure => simp [intOf]; omega
        · obtain rfl : i = S := by omega
          have HYS := Lib.hid (show validB i W size (qs.map Sw.s) = true by
            unfold validB
            rw [HSB.out, List.length_map, HSW.out, HNL.out]
            simp only [Int.toNat_natCast, decide_true, Bool.true_and]
            exact decide_eq_true (fun t ht => HRA.out t ht))
          skip
          go_wp2_with fail
          go_ret
          exact ⟨by rw [HYS.out]; rfl, H.done⟩
    · have hnb : ((qs.length : Int) != (N : Int)) = true := bne_iff_ne.2 (by omega)
      have HNO := Lib.hid (show validB S W size (qs.map Sw.s) = false by
        unfold validB
        rw [List.length_map, HSW.out, decide_eq_false (show ¬ ((qs.length : Int) = N) by omega)]
        simp)
      go_enter Try.func17, Try.ntmps17
      have H := HS.start NoD w
      go_upto_region 1 with fail
      generalize hwb : w.alloc _ = w1
      replace H := HS.eqW hwb H.alloc
      try simp only [World.size_alloc, List.nil_append, List.cons_append, List.append_assoc] at H
      clear hwb
      generalize w.heap.size = bX at H ⊢
      try clear C
      have C := H.cells
      try simp only [cellsOf, cellsM, apartOf, apartM, and_true] at C
      go_wp2_with fail
      refine (HSZ.out _).mono ?_
      rintro _ w2 ⟨rfl, hb⟩
      replace H := H.below hb
      clear hb
      try clear C
      try simp only [World.size_alloc, List.nil_append, List.cons_append, List.append_assoc] at H
      try clear w1
      have C := H.cells
      try simp only [cellsOf, cellsM, apartOf, apartM, and_true] at C
      dsimp only
      go_wp2_with fail
      go_ret
      exact ⟨by rw [HNO.out]; rfl, H.done⟩
end Go.Proofs.Ytfmcicmbehjdcaa
