/- Package inject: chips, Valid. -/
import Derived.Test.YtaeockopliplfaaDoorInjL
import Derived.Test.YtaeockopliplfaaDoorRef9
namespace Go.Proofs.YtaeockopliplfaaDoor
set_option linter.unusedSimpArgs false
set_option linter.unusedVariables false
open Go.RowKit
set_option maxRecDepth 100000
attribute [local go_sem] lt_more ne_more ne_more'
attribute [local irreducible] wpX wpF Calls

@[reducible] def vC (kd dt ck fx : Int) : Value := .agg #[.int .i64 kd, .int .i64 dt, .int .i64 ck, .int .i64 fx]
/-- The code is one of bits, or a permitted one of symbols. -/
def CodeOk (kd dt ck fx : Int) : Prop := kd = 1 ∨ (kd = 2 ∧ (1 ≤ dt ∧ dt ≤ 32) ∧ (1 ≤ ck ∧ ck ≤ 8) ∧ (0 ≤ fx ∧ fx ≤ 8))
def nC (kd dt ck : Int) : Int := if kd = 1 then 9 else dt + ck
theorem nC_pos {kd dt ck fx : Int} (h : CodeOk kd dt ck fx) : 1 ≤ nC kd dt ck ∧ nC kd dt ck ≤ 40 := by
  unfold nC
  rcases h with h | ⟨rfl, h1, h2, h3⟩
  · simp [h]
  · simp; omega
theorem ichips_ok {kd dt ck fx : Int} (h : CodeOk kd dt ck fx) (w : World) : Calls Tryd.prog 73 #[vC kd dt ck fx] w (Gives (.int .i64 (nC kd dt ck)) w) := by
  rcases h with rfl | ⟨rfl, ⟨h1, h2⟩, ⟨h3, h4⟩, h5, h6⟩
  · go_enter Tryd.func73, Tryd.ntmps73
    have H := HS.start NoD w
    go_wp2_with fail
    go_ret
    exact ⟨rfl, by (first | exact H.done | exact H.skipAlloc.done | exact H.skipAlloc.skipAlloc.done | exact H.skipAlloc.skipAlloc.skipAlloc.done)⟩
  · have e : wrap64 (dt + ck) = dt + ck := IntWalk.wrap64_in _ (by omega)
    go_enter Tryd.func73, Tryd.ntmps73
    have H := HS.start NoD w
    go_wp2_with fail
    go_ret
    exact ⟨by simp [nC], by (first | exact H.done | exact H.skipAlloc.done | exact H.skipAlloc.skipAlloc.done | exact H.skipAlloc.skipAlloc.skipAlloc.done)⟩

/-- One after the other, within the time, each with a valid fault. -/
def okS (a0 a1 a2 a3 a4 a5 n : Int) : Int → List St → Bool
  | _, [] => true
  | last, x :: xs => !decide (x.t < last) && !decide (1099511627776 < x.t) && vfAll a0 a1 a2 a3 a4 a5 n x.k x.p0 x.p1 x.p2 x.p3 x.p4 x.p5 x.ch x.ms x.vl x.hd && okS a0 a1 a2 a3 a4 a5 n x.t xs
theorem okS_later {a0 a1 a2 a3 a4 a5 n : Int} : ∀ {xs : List St} {l l' : Int}, okS a0 a1 a2 a3 a4 a5 n l xs = true → l' ≤ l → okS a0 a1 a2 a3 a4 a5 n l' xs = true
  | [], _, _, _, _ => rfl
  | x :: xs, l, l', h, hl => by
    simp only [okS, Bool.and_eq_true, Bool.not_eq_true', decide_eq_false_iff_not] at h ⊢
    exact ⟨⟨⟨by omega, h.1.1.2⟩, h.1.2⟩, h.2⟩
theorem okS_sub {a0 a1 a2 a3 a4 a5 n : Int} {ys xs : List St} (h : ys.Sublist xs) : ∀ {l : Int}, okS a0 a1 a2 a3 a4 a5 n l xs = true → okS a0 a1 a2 a3 a4 a5 n l ys = true := by
  induction h with
  | slnil => intro l h; exact h
  | cons x _ ih =>
    intro l h
    simp only [okS, Bool.and_eq_true, Bool.not_eq_true', decide_eq_false_iff_not] at h
    exact okS_later (ih h.2) (by omega)
  | cons_cons x _ ih =>
    intro l h
    simp only [okS, Bool.and_eq_true, Bool.not_eq_true', decide_eq_false_iff_not] at h ⊢
    exact ⟨h.1, ih h.2⟩

set_option maxHeartbeats 8000000 in
theorem ivalid_any {a0 a1 a2 a3 a4 a5 kd dt ck fx : Int} (h : SV a0 a1 a2 a3 a4 a5) (hC : CodeOk kd dt ck fx) {sa : Option Addr} (c : Nat) {xs : List St} (hx : xs.length ≤ 40) (w : World) (hN : Nm w)
    (hl : Lies w w.heap.size sa 12 xs.length (fun j => stC xs[j]!)) :
    Calls Tryd.prog 56 #[v6 a0 a1 a2 a3 a4 a5, vC kd dt ck fx, .slice sa xs.length c] w (Gives (.bool (okS a0 a1 a2 a3 a4 a5 (nC kd dt ck) 0 xs)) w) := by
  have HSV := Lib.hid (fun w => valid_yes h w)
  have HCH := Lib.hid (fun w => ichips_ok hC w)
  have hn := nC_pos hC
  generalize nC kd dt ck = n at HCH hn ⊢
  have HVF := Lib.hid (fun k p0 p1 p2 p3 p4 p5 ch ms vl hd w hN => vfault_any a0 a1 a2 a3 a4 a5 n k p0 p1 p2 p3 p4 p5 ch ms vl hd w hN)
  obtain ⟨V, hV⟩ : ∃ V, V = okS a0 a1 a2 a3 a4 a5 n 0 xs := ⟨_, rfl⟩
  rw [← hV]
  have HV := Lib.hid hV
  have HL := Lib.hid hl
  have HNm := Lib.hid hN
  have HX := Lib.hid hx
  clear hl hN h hC hV
  have hnz : n ≠ 0 := by omega
  go_enter Tryd.func56, Tryd.ntmps56
  have H := HS.start NoD w
  go_wp2_with fail
  refine (HSV.out _).mono ?_
  rintro _ w1 ⟨rfl, hb⟩
  replace H := H.alloc.alloc.below hb
  clear hb
  try clear C
  try simp only [World.size_alloc, List.nil_append, List.cons_append, List.append_assoc] at H
  generalize w.heap.size + 1 = bC at H ⊢
  generalize w.heap.size = bS at H ⊢
  have C := H.cells
  try simp only [cellsOf, apartOf, and_true] at C
  dsimp only
  go_wp2_with fail
  refine (HCH.out _).mono ?_
  rintro _ w2 ⟨rfl, hb⟩
  replace H := H.below hb
  clear hb
  try clear C
  try simp only [World.size_alloc, List.nil_append, List.cons_append, List.append_assoc] at H
  try clear w1
  have C := H.cells
  try simp only [cellsOf, apartOf, and_true] at C
  dsimp only
  have hx : ¬ (40 : Int) < (xs.length : Nat) := by have := HX.out; omega
  go_wp2_with fail
  go_loopw [7, 25] (fun u c wr => ∃ (j : Nat) (last : Int), c = .int .i64 j ∧ u = .int .i64 last ∧ j ≤ xs.length ∧ okS a0 a1 a2 a3 a4 a5 n last (xs.drop j) = V ∧ HS NoD w [.blk bS #[.int .i64 a0, .int .i64 a1, .int .i64 a2, .int .i64 a3, .int .i64 a4, .int .i64 a5] 28, .blk bC #[.int .i64 kd, .int .i64 dt, .int .i64 ck, .int .i64 fx] 58] wr) (fun _ c _ => xs.length - (intOf c).toNat)
  case atStart => exact ⟨0, 0, rfl, rfl, Nat.zero_le _, HV.out.symm, H⟩
  case round =>
    clear H C w2
    obtain ⟨j, last, rfl, rfl, hj, hok, H⟩ := hrel
    skip
    try clear C
    try simp only [World.size_alloc, List.nil_append, List.cons_append, List.append_assoc] at H
    have C := H.cells
    try simp only [cellsOf, apartOf, and_true] at C
    have hx := HX.out
    by_cases hlt : j < xs.length
    · obtain ⟨b, o, rfl, hb, hc⟩ := (H.lies HL.out).at hlt
      obtain ⟨x, hxj⟩ : ∃ x, x = xs[j]! := ⟨_, rfl⟩
      have hdrop : xs.drop j = x :: xs.drop (j + 1) := by rw [hxj, getElem!_pos xs j hlt]; exact List.drop_eq_getElem_cons hlt
      rw [hdrop] at hok
      rw [← hxj] at hc
      clear hdrop hxj
      obtain ⟨t, k, p0, p1, p2, p3, p4, p5, ch, ms, vl, hd⟩ := x
      have c0 : wr.cell? ⟨b, o + j * 12, none⟩ = some (.int .i64 t) := hc 0 _ rfl
      have c1 : wr.cell? ⟨b, o + j * 12 + 1, none⟩ = some (.int .i64 k) := hc 1 _ rfl
      have c2 : wr.cell? ⟨b, o + j * 12 + 2, none⟩ = some (.int .i64 p0) := hc 2 _ rfl
      have c3 : wr.cell? ⟨b, o + j * 12 + 3, none⟩ = some (.int .i64 p1) := hc 3 _ rfl
      have c4 : wr.cell? ⟨b, o + j * 12 + 4, none⟩ = some (.int .i64 p2) := hc 4 _ rfl
      have c5 : wr.cell? ⟨b, o + j * 12 + 5, none⟩ = some (.int .i64 p3) := hc 5 _ rfl
      have c6 : wr.cell? ⟨b, o + j * 12 + 6, none⟩ = some (.int .i64 p4) := hc 6 _ rfl
      have c7 : wr.cell? ⟨b, o + j * 12 + 7, none⟩ = some (.int .i64 p5) := hc 7 _ rfl
      have c8 : wr.cell? ⟨b, o + j * 12 + 8, none⟩ = some (.int .i64 ch) := hc 8 _ rfl
      have c9 : wr.cell? ⟨b, o + j * 12 + 9, none⟩ = some (.int .u8 ms) := hc 9 _ rfl
      have c10 : wr.cell? ⟨b, o + j * 12 + 10, none⟩ = some (.int .u8 vl) := hc 10 _ rfl
      have c11 : wr.cell? ⟨b, o + j * 12 + 11, none⟩ = some (.bool hd) := hc 11 _ rfl
      clear hc
      have hvf := HVF.out k p0 p1 p2 p3 p4 p5 ch ms vl hd
      simp only [okS] at hok
      generalize vfAll a0 a1 a2 a3 a4 a5 n k p0 p1 p2 p3 p4 p5 ch ms vl hd = f at hok hvf
      have HF := Lib.hid hvf
      have HOK := Lib.hid hok
      clear hvf hok
      go_upto_region 7 with fail
      generalize hwb : wr.alloc _ = w3
      replace H := HS.eqW hwb H.alloc
      try simp only [World.size_alloc, List.nil_append, List.cons_append, List.append_assoc] at H
      clear hwb
      generalize wr.heap.size = bx at H ⊢
      try clear C
      try clear wr
      have C := H.cells
      try simp only [cellsOf, apartOf, and_true] at C
      replace H := H.less (L' := [.blk bS _ _, .blk bC _ _, .blk bx _ _]) (by repeat (first | exact .slnil | refine .cons_cons _ ?_ | refine .cons _ ?_))
      try clear C
      try clear C
      try simp only [World.size_alloc, List.nil_append, List.cons_append, List.append_assoc] at H
      have C := H.cells
      try simp only [cellsOf, apartOf, and_true] at C
      clear c0 c1 c2 c3 c4 c5 c6 c7 c8 c9 c10 c11 hb
      by_cases ht : t < last
      · have hv : V = false := by have := HOK.out; simpa [ht] using this.symm
        subst hv
        skip
        refine wp_region_xH (by kernel_rfl) (by kernel_rfl) (by kernel_rfl) (by kernel_rfl) (fun _ => False) (H) ?_
        clear H; intro w4 H hz0 hs0
        try clear C
        try simp only [World.size_alloc, List.nil_append, List.cons_append, List.append_assoc] at H hz0
        clear hz0
        try clear w3
        have C := H.cells
        try simp only [cellsOf, apartOf, and_true] at C
        have Z := H.zs
        try simp only [ltsOf, and_true] at Z
        have hz0 := Nat.le_refl w4.heap.size
        repeat (first | (refine wpX_skip rfl ?_; go_simp) | (refine wpX_free rfl rfl rfl (fun K hK => ?_); go_step; refine hK _ _ ?_; clear hK K) | (refine wpX_load rfl rfl rfl (by simp [Stay, OneD, NoD, *]) hs0 (by simp [*]) (fun K hK => ?_); go_step; refine hK _ _ ?_; clear hK K))
        (refine wpX_nil ?_; go_step)
        go_wp2_with fail
        go_ret
        exact ⟨rfl, H.done⟩
      · by_cases ht2 : 1099511627776 < t
        · have hv : V = false := by have := HOK.out; simpa [ht, ht2] using this.symm
          subst hv
          skip
          refine wp_region_xH (by kernel_rfl) (by kernel_rfl) (by kernel_rfl) (by kernel_rfl) (fun _ => False) (H) ?_
          clear H; intro w5 H hz0 hs0
          try clear C
          try simp only [World.size_alloc, List.nil_append, List.cons_append, List.append_assoc] at H hz0
          clear hz0
          try clear w3
          have C := H.cells
          try simp only [cellsOf, apartOf, and_true] at C
          have Z := H.zs
          try simp only [ltsOf, and_true] at Z
          have hz0 := Nat.le_refl w5.heap.size
          repeat (first | (refine wpX_skip rfl ?_; go_simp) | (refine wpX_free rfl rfl rfl (fun K hK => ?_); go_step; refine hK _ _ ?_; clear hK K) | (refine wpX_load rfl rfl rfl (by simp [Stay, OneD, NoD, *]) hs0 (by simp [*]) (fun K hK => ?_); go_step; refine hK _ _ ?_; clear hK K))
          (refine wpX_nil ?_; go_step)
          go_wp2_with fail
          go_ret
          exact ⟨rfl, H.done⟩
        · skip
          refine wp_region_xH (by kernel_rfl) (by kernel_rfl) (by kernel_rfl) (by kernel_rfl) (fun _ => False) (H) ?_
          clear H; intro w6 H hz0 hs0
          try clear C
          try simp only [World.size_alloc, List.nil_append, List.cons_append, List.append_assoc] at H hz0
          clear hz0
          try clear w3
          have C := H.cells
          try simp only [cellsOf, apartOf, and_true] at C
          have Z := H.zs
          try simp only [ltsOf, and_true] at Z
          have hz0 := Nat.le_refl w6.heap.size
          repeat (first | (refine wpX_skip rfl ?_; go_simp) | (refine wpX_free rfl rfl rfl (fun K hK => ?_); go_step; refine hK _ _ ?_; clear hK K) | (refine wpX_load rfl rfl rfl (by simp [Stay, OneD, NoD, *]) hs0 (by simp [*]) (fun K hK => ?_); go_step; refine hK _ _ ?_; clear hK K))
          refine wpX_eff rfl rfl (fun _ _ => ?_)
          go_step
          refine (HCH.out _).mono ?_
          rintro _ w7 ⟨rfl, hb⟩
          replace hs0 := hs0.belowS hz0 hb
          replace hz0 := Nat.le_trans hz0 hb.size
          replace H := H.below hb
          clear hb
          try clear C
          have C := H.cells
          try simp only [cellsOf, apartOf, and_true] at C
          try clear w6
          dsimp only
          go_step
          refine ⟨hs0, ?_⟩
          repeat (first | (refine wpX_skip rfl ?_; go_simp) | (refine wpX_free rfl rfl rfl (fun K hK => ?_); go_step; refine hK _ _ ?_; clear hK K) | (refine wpX_load rfl rfl rfl (by simp [Stay, OneD, NoD, *]) hs0 (by simp [*]) (fun K hK => ?_); go_step; refine hK _ _ ?_; clear hK K))
          refine wpX_eff rfl rfl (fun _ _ => ?_)
          go_step
          refine (HF.out _ (HNm.out.below H.done)).mono ?_
          rintro _ w8 ⟨rfl, hb⟩
          replace hs0 := hs0.belowS hz0 hb
          replace hz0 := Nat.le_trans hz0 hb.size
          replace H := H.below hb
          clear hb
          try clear C
          have C := H.cells
          try simp only [cellsOf, apartOf, and_true] at C
          try clear w7
          dsimp only
          go_step
          refine ⟨hs0, ?_⟩
          repeat (first | (refine wpX_skip rfl ?_; go_simp) | (refine wpX_free rfl rfl rfl (fun K hK => ?_); go_step; refine hK _ _ ?_; clear hK K) | (refine wpX_load rfl rfl rfl (by simp [Stay, OneD, NoD, *]) hs0 (by simp [*]) (fun K hK => ?_); go_step; refine hK _ _ ?_; clear hK K))
          (refine wpX_nil ?_; go_step)
          cases f
          · have hv : V = false := by have := HOK.out; simpa using this.symm
            subst hv
            go_wp2_with fail
            go_ret
            exact ⟨rfl, H.done⟩
          · go_wp2_with fail
            go_roundw
            case rel => exact ⟨j + 1, t, by go_num, rfl, by omega, by have := HOK.out; simpa [ht, ht2] using this, H.less (by repeat (first | exact .slnil | refine .cons_cons _ ?_ | refine .cons _ ?_))⟩
            case measure => simp [intOf]; omega
    · have hje : j = xs.length := by omega
      subst hje
      have hv : V = true := by rw [← hok]; simp [okS]
      subst hv
      skip
      go_wp2_with fail
      go_ret
      exact ⟨rfl, H.done⟩
end Go.Proofs.YtaeockopliplfaaDoor
