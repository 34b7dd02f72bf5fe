/- The statement RateTwice: its walk. -/
import Derived.Test.YtcacgmfihhpliaaRate6
import Derived.Test.YtcacgmfihhpliaaMillG
namespace Go.Proofs.Ytcacgmfihhpliaa
set_option linter.unusedSimpArgs false
set_option linter.unusedVariables false
open Go.RowKit
set_option maxRecDepth 100000
attribute [local go_sem] lt_more ne_more ne_more'
attribute [local irreducible] wpX wpF

theorem leakG_twice {P a b : Int} {x : G3} (hP : 1 ≤ P) (hab : a ≤ b) : (leakG P a x).bind (leakG P b) = leakG P b x := by
  obtain ⟨p, l, t⟩ := x
  by_cases h : t ≤ a
  · have h1 := leakN_in (x := ⟨p, l, t⟩) hP h
    have h2 := leakN_in (x := ⟨p, l, t⟩) (T := b) hP (by dsimp only; omega)
    have e : leakN P b ⟨p, l - leakN P a ⟨p, l, t⟩, t + leakN P a ⟨p, l, t⟩ * P⟩ = leakN P b ⟨p, l, t⟩ - leakN P a ⟨p, l, t⟩ := by
      have e1 : leakN P a ⟨p, l, t⟩ = (a - t) / P := by unfold leakN; rw [if_pos h]
      have e2 : leakN P b ⟨p, l, t⟩ = (b - t) / P := by unfold leakN; rw [if_pos (by dsimp only; omega)]
      dsimp only at h1 h2
      rw [e2]
      generalize leakN P a ⟨p, l, t⟩ = n at *
      unfold leakN
      dsimp only
      rw [if_pos (by omega), show b - (t + n * P) = (b - t) + (-n) * P by rw [Int.neg_mul]; omega, Int.add_mul_ediv_right _ _ (by omega)]
      omega
    have hle : leakN P a ⟨p, l, t⟩ ≤ leakN P b ⟨p, l, t⟩ := by
      unfold leakN; rw [if_pos h, if_pos (by dsimp only; omega)]
      exact Int.ediv_le_ediv (by omega) (by dsimp only; omega)
    rw [show leakG P a ⟨p, l, t⟩ = if 0 < l - leakN P a ⟨p, l, t⟩ then some ⟨p, l - leakN P a ⟨p, l, t⟩, t + leakN P a ⟨p, l, t⟩ * P⟩ else none from rfl]
    rw [show leakG P b ⟨p, l, t⟩ = if 0 < l - leakN P b ⟨p, l, t⟩ then some ⟨p, l - leakN P b ⟨p, l, t⟩, t + leakN P b ⟨p, l, t⟩ * P⟩ else none from rfl]
    by_cases hp : 0 < l - leakN P a ⟨p, l, t⟩
    · rw [if_pos hp, Option.bind_some]
      unfold leakG
      rw [e]
      dsimp only
      generalize leakN P a ⟨p, l, t⟩ = n at *
      generalize leakN P b ⟨p, l, t⟩ = m at *
      rw [show l - n - (m - n) = l - m by omega, show t + n * P + (m - n) * P = t + m * P by rw [Int.sub_mul]; omega]
    · rw [if_neg hp, if_neg (by omega)]; rfl
  · have h1 : leakN P a ⟨p, l, t⟩ = 0 := by unfold leakN; rw [if_neg h]
    rw [show leakG P a ⟨p, l, t⟩ = if 0 < l - leakN P a ⟨p, l, t⟩ then some ⟨p, l - leakN P a ⟨p, l, t⟩, t + leakN P a ⟨p, l, t⟩ * P⟩ else none from rfl, h1, Int.sub_zero, Int.zero_mul, Int.add_zero]
    by_cases hl : 0 < l
    · rw [if_pos hl]; rfl
    · rw [if_neg hl]
      have h2 : 0 ≤ leakN P b ⟨p, l, t⟩ := by
        by_cases hb : t ≤ b
        · exact (leakN_in (x := ⟨p, l, t⟩) hP hb).1
        · unfold leakN; rw [if_neg hb]; exact Int.le_refl _
      unfold leakG
      rw [if_neg (by dsimp only; omega)]; rfl
theorem leak_twice {P a b : Int} {xs : List G3} (hP : 1 ≤ P) (hab : a ≤ b) : leakL P b (leakL P a xs) = leakL P b xs := by
  unfold leakL
  rw [List.filterMap_filterMap]
  congr 1
  funext x
  exact leakG_twice hP hab
theorem leak_zero {P : Int} : ∀ {xs : List G3}, (∀ x ∈ xs, 0 ≤ x.t ∧ 1 ≤ x.l) → leakL P 0 xs = xs
  | [], _ => rfl
  | x :: xs, h => by
    have hx := h x (by simp)
    have h1 : leakN P 0 x = 0 := by
      unfold leakN
      split
      · rw [show (0 : Int) - x.t = 0 by omega, Int.zero_ediv]
      · rfl
    have h2 : leakG P 0 x = some x := by
      unfold leakG
      rw [h1, Int.sub_zero, Int.zero_mul, Int.add_zero, if_pos (by omega)]
    have := leak_zero (P := P) (xs := xs) fun y hy => h y (by simp [hy])
    unfold leakL at this ⊢
    rw [List.filterMap_cons, h2, this]
theorem GOK.to {P T T' : Int} {xs : List G3} (h : GOK P T xs) (hT : 0 ≤ T' ∧ T' ≤ 1099511627776) : GOK P T' xs := ⟨h.P1, h.P2, hT.1, hT.2, h.len, h.all⟩
theorem MG.ok {P L T : Int} {xs : List G3} (h : MG P L xs) (hT : 0 ≤ T ∧ T ≤ 1099511627776) : GOK P T xs :=
  ⟨h.P1.1, by have := h.P1; omega, hT.1, hT.2, by have := h.len; omega, fun x hx => by have := h.all x hx; omega⟩
theorem leak_pos {P T : Int} {xs : List G3} {y : G3} (hy : y ∈ leakL P T xs) : ∃ x ∈ xs, y.p = x.p := by
  obtain ⟨x, hx, hxy⟩ := List.mem_filterMap.1 hy
  unfold leakG at hxy
  split at hxy
  · simp at hxy; exact ⟨x, hx, by rw [← hxy]⟩
  · cases hxy
theorem MG.leaked {P L T : Int} {xs : List G3} (h : MG P L xs) (hT : 0 ≤ T ∧ T ≤ 1099511627776) : rvB P L (leakL P T xs) = true ∧ GOK P T (leakL P T xs) := by
  have h0 := h.ok hT
  have h2 := Nat.le_trans (leakL_len P T xs) h.len
  have h1 := okF_of (last := -1) (xs := leakL P T xs) (fun y hy => by
    have := leak_in h0 hy
    obtain ⟨x, hx, e⟩ := leak_pos hy
    have := h.all x hx
    omega) (sorted_leak h.sorted)
  have := h.P1; have := h.L1
  refine ⟨?_, ⟨h0.P1, h0.P2, h0.T0, h0.T2, by omega, fun y hy => leak_in h0 hy⟩⟩
  simp only [rvB, h1, Bool.true_and, Bool.and_eq_true, decide_eq_true_eq]
  omega
theorem HS.diceRow {D : Nat → Prop} {W w w' : World} {L : List Item} (h : HS D W L w) (i : Nat) {B b : Nat} (hi : L[i]? = some (.dice B b)) (hg : Chg b w w') (hd : Dice B w' b) {v : Value} {e : TypeId} {s n : Nat} {xs : List Value} (hr : w'.ownsRow w.heap.size e s v n xs) : HS D W (L ++ [.row v e s n xs]) w' :=
  HS.add (A := .row v e s n xs) (h.diceAt i hi hg hd) h.lts h.size (ownsRow_zero hr) (fun k hk => ownsRow_fp hr hk) ⟨Nat.zero_le _, fun k hk => absurd hk (Nat.not_lt_zero _)⟩

theorem gives_of {n : Nat} {args : Array Value} {v : Value} {w : World} (h : Calls Try.prog n args w fun e w' => e = .returned v ∧ w = w') : Calls Try.prog n args w (Gives v w) :=
  h.mono fun e w' ⟨h1, h2⟩ => ⟨h1, h2 ▸ Below.refl _ _⟩
set_option maxHeartbeats 4000000 in
theorem twice_walk (sa : Option Addr) (len cap : Nat) (hl : len ≤ maxLen) (a b : Int) (w : World) (hI : Ints w sa len) :
    Calls Try.prog 10 #[.slice sa len cap, .int .i64 a, .int .i64 b] w (Gives (.bool true) w) := by
  have HI := Lib.hid hI
  clear hI
  have hli := light_any sa len cap hl
  clear hl
  by_cases h400 : len ≤ 400
  · rw [decide_eq_true h400] at hli
    have HLI := Lib.hid hli
    clear hli
    have m1 := modF_in (n := a) (m := 100) (by decide) (by decide)
    have m2 := modF_in (n := b) (m := 100) (by decide) (by decide)
    have M1 := Lib.hid (fun w => gives_of (mod_any a 100 w))
    have M2 := Lib.hid (fun w => gives_of (mod_any b 100 w))
    generalize modF a 100 = t1 at *
    generalize modF b 100 = t2 at *
    go_enter Try.func10, Try.ntmps10
    have H := HS.start NoD w
    go_wp2_with fail
    refine (gives_of (HLI.out _)).mono ?_
    rintro _ w1 ⟨rfl, hb⟩
    replace H := H.below hb
    clear hb
    try clear C
    try simp only [World.size_alloc, List.nil_append, List.cons_append, List.append_assoc] at H
    have C := H.cells
    try simp only [cellsOf, apartOf, and_true] at C
    dsimp only
    go_wp2_with fail
    refine (roll_at w.heap.size _ _ _ h400 _ H.size (H.ints HI.out)).mono ?_
    rintro _ w2 ⟨bd, rfl, hd, hb, hbb⟩
    replace H := H.getsDice hb hd hbb (Nat.le_refl _)
    clear hb hd hbb
    try clear C
    try simp only [World.size_alloc, List.nil_append, List.cons_append, List.append_assoc] at H
    try clear w1
    have C := H.cells
    try simp only [cellsOf, apartOf, and_true] at C
    dsimp only
    go_wp2_with fail
    refine (gauges_any w.heap.size bd _ (H.at 0 rfl) H.size).mono ?_
    rintro _ wg ⟨P, L, xs, s0, c0, rfl, hr, hG, hd, hg⟩
    replace H := H.diceRow 0 rfl hg hd hr
    clear hr hd hg
    try simp only [List.nil_append, List.cons_append, List.append_assoc] at H
    skip
    try clear C
    try simp only [World.size_alloc, List.nil_append, List.cons_append, List.append_assoc] at H
    have C := H.cells
    try simp only [cellsOf, apartOf, and_true] at C
    have K1 := Lib.hid (fun w (sa : Option Addr) (c : Nat) hl => leak_ok L (sa := sa) c (hG.ok (T := t1) (by omega)) w hl)
    have K2 := Lib.hid (fun w (sa : Option Addr) (c : Nat) hl => by have := leak_ok L (sa := sa) c ((hG.leaked (T := t1) (by omega)).2.to (T' := t1 + t2) (by omega)) w hl; rw [leak_twice hG.P1.1 (by omega)] at this; exact this : ∀ w (sa : Option Addr) (c : Nat), Lies w w.heap.size sa 3 (leakL P t1 xs).length (fun j => gC (leakL P t1 xs)[j]!) → Calls Try.prog 46 #[vG P L (.slice sa (leakL P t1 xs).length c), .int .i64 (t1 + t2)] w (GivesS (vG P L) 66 3 (leakL P (t1 + t2) xs).length ((leakL P (t1 + t2) xs).flatMap gC) w))
    have K3 := Lib.hid (fun w (sa : Option Addr) (c : Nat) hl => leak_ok L (sa := sa) c (hG.ok (T := t1 + t2) (by omega)) w hl)
    have K4 := Lib.hid (fun w (sa : Option Addr) (c : Nat) hl => by have := leak_ok L (sa := sa) c (hG.ok (T := 0) (by omega)) w hl; rw [leak_zero (fun x hx => by have := hG.all x hx; omega)] at this; exact this : ∀ w (sa : Option Addr) (c : Nat), Lies w w.heap.size sa 3 xs.length (fun j => gC xs[j]!) → Calls Try.prog 46 #[vG P L (.slice sa xs.length c), .int .i64 0] w (GivesS (vG P L) 66 3 xs.length (xs.flatMap gC) w))
    have hyl : (leakL P (t1 + t2) xs).length ≤ 5 := Nat.le_trans (leakL_len _ _ _) hG.len
    have K5 := Lib.hid (fun w (sa : Option Addr) (c : Nat) hl => by have := rvalid_any P L (sa := sa) c (xs := leakL P (t1 + t2) xs) (by omega) w hl; rw [(hG.leaked (T := t1 + t2) (by omega)).1] at this; exact this : ∀ w (sa : Option Addr) (c : Nat), Lies w w.heap.size sa 3 (leakL P (t1 + t2) xs).length (fun j => gC (leakL P (t1 + t2) xs)[j]!) → Calls Try.prog 44 #[vG P L (.slice sa (leakL P (t1 + t2) xs).length c)] w (Gives (.bool true) w))
    have hxl := hG.len
    generalize leakL P (t1 + t2) xs = zs at *
    generalize leakL P t1 xs = ys at *
    have HG := Lib.hid hG
    clear hG
    go_wp2_with fail
    refine (M1.out _).mono ?_
    rintro _ w3 ⟨rfl, hb⟩
    replace H := H.alloc.below hb
    clear hb
    try clear C
    try simp only [World.size_alloc, List.nil_append, List.cons_append, List.append_assoc] at H
    generalize wg.heap.size = bG at H ⊢
    try clear wg
    have C := H.cells
    try simp only [cellsOf, apartOf, and_true] at C
    dsimp only
    go_wp2_with fail
    refine (M2.out _).mono ?_
    rintro _ w4 ⟨rfl, hb⟩
    replace H := H.below hb
    clear hb
    try clear C
    try simp only [World.size_alloc, List.nil_append, List.cons_append, List.append_assoc] at H
    try clear w3
    have C := H.cells
    try simp only [cellsOf, apartOf, and_true] at C
    dsimp only
    go_wp2_with fail
    refine (K1.out _ _ _ (H.rowLies 1 gC_len rfl rfl)).mono ?_
    rintro _ w5 ⟨s1, c1, rfl, hr, hb⟩
    replace H := (H).getsRow hb hr
    clear hb hr
    try clear C
    try simp only [World.size_alloc, List.nil_append, List.cons_append, List.append_assoc] at H
    try clear w4
    have C := H.cells
    try simp only [cellsOf, apartOf, and_true] at C
    dsimp only
    go_wp2_with fail
    refine (K2.out _ _ _ (H.rowLies 3 gC_len rfl rfl)).mono ?_
    rintro _ w6 ⟨s2, c2, rfl, hr, hb⟩
    replace H := (H).getsRow hb hr
    clear hb hr
    try clear C
    try simp only [World.size_alloc, List.nil_append, List.cons_append, List.append_assoc] at H
    try clear w5
    have C := H.cells
    try simp only [cellsOf, apartOf, and_true] at C
    dsimp only
    go_wp2_with fail
    refine wp_region_xH (by kernel_rfl) (by kernel_rfl) (by kernel_rfl) (by kernel_rfl) (fun _ => False) (H.alloc) ?_
    clear H; intro w7 H hz0 hs0
    try clear C
    try simp only [World.size_alloc, List.nil_append, List.cons_append, List.append_assoc] at H hz0
    generalize w6.heap.size = bZ at H hz0 ⊢
    clear hz0
    try clear w6
    have C := H.cells
    try simp only [cellsOf, apartOf, and_true] at C
    have Z := H.zs
    try simp only [ltsOf, and_true] at Z
    have hz0 := Nat.le_refl w7.heap.size
    repeat (first | (refine wpX_skip rfl ?_; go_simp) | (refine wpX_free rfl rfl rfl (fun K hK => ?_); go_step; refine hK _ _ ?_; clear hK K) | (refine wpX_load rfl rfl rfl (by simp [Stay, OneD, NoD, *]) hs0 (by simp [*]) (fun K hK => ?_); go_step; refine hK _ _ ?_; clear hK K))
    refine wpX_eff rfl rfl (fun _ _ => ?_)
    go_step
    refine (K3.out _ _ _ (H.rowLies 1 gC_len rfl rfl)).mono ?_
    rintro _ w8 ⟨s3, c3, rfl, hr, hb⟩
    replace hs0 := hs0.belowS hz0 hb
    replace hz0 := Nat.le_trans hz0 hb.size
    replace H := H.getsRow hb hr
    clear hb hr
    try simp only [List.nil_append, List.cons_append, List.append_assoc] at H
    try clear C
    have C := H.cells
    try simp only [cellsOf, apartOf, and_true] at C
    try clear w7
    dsimp only
    go_step
    refine ⟨hs0, ?_⟩
    repeat (first | (refine wpX_skip rfl ?_; go_simp) | (refine wpX_free rfl rfl rfl (fun K hK => ?_); go_step; refine hK _ _ ?_; clear hK K) | (refine wpX_load rfl rfl rfl (by simp [Stay, OneD, NoD, *]) hs0 (by simp [*]) (fun K hK => ?_); go_step; refine hK _ _ ?_; clear hK K))
    refine wpX_eff rfl rfl (fun _ _ => ?_)
    go_step
    refine (same26 P L _ _ (by omega) _ (H.rowLies 4 gC_len rfl rfl) (H.rowLies 6 gC_len rfl rfl)).mono ?_
    rintro _ w9 ⟨rfl, hb⟩
    replace hs0 := hs0.belowS hz0 hb
    replace hz0 := Nat.le_trans hz0 hb.size
    replace H := H.below hb
    clear hb
    try clear C
    have C := H.cells
    try simp only [cellsOf, apartOf, and_true] at C
    try clear w8
    dsimp only
    go_step
    refine ⟨hs0, ?_⟩
    repeat (first | (refine wpX_skip rfl ?_; go_simp) | (refine wpX_free rfl rfl rfl (fun K hK => ?_); go_step; refine hK _ _ ?_; clear hK K) | (refine wpX_load rfl rfl rfl (by simp [Stay, OneD, NoD, *]) hs0 (by simp [*]) (fun K hK => ?_); go_step; refine hK _ _ ?_; clear hK K))
    refine wpX_eff rfl rfl (fun _ _ => ?_)
    go_step
    refine (K5.out _ _ _ (H.rowLies 4 gC_len rfl rfl)).mono ?_
    rintro _ w10 ⟨rfl, hb⟩
    replace hs0 := hs0.belowS hz0 hb
    replace hz0 := Nat.le_trans hz0 hb.size
    replace H := H.below hb
    clear hb
    try clear C
    have C := H.cells
    try simp only [cellsOf, apartOf, and_true] at C
    try clear w9
    dsimp only
    go_step
    refine ⟨hs0, ?_⟩
    repeat (first | (refine wpX_skip rfl ?_; go_simp) | (refine wpX_free rfl rfl rfl (fun K hK => ?_); go_step; refine hK _ _ ?_; clear hK K) | (refine wpX_load rfl rfl rfl (by simp [Stay, OneD, NoD, *]) hs0 (by simp [*]) (fun K hK => ?_); go_step; refine hK _ _ ?_; clear hK K))
    refine wpX_eff rfl rfl (fun _ _ => ?_)
    go_step
    refine (K4.out _ _ _ (H.rowLies 1 gC_len rfl rfl)).mono ?_
    rintro _ w11 ⟨s4, c4, rfl, hr, hb⟩
    replace hs0 := hs0.belowS hz0 hb
    replace hz0 := Nat.le_trans hz0 hb.size
    replace H := H.getsRow hb hr
    clear hb hr
    try simp only [List.nil_append, List.cons_append, List.append_assoc] at H
    try clear C
    have C := H.cells
    try simp only [cellsOf, apartOf, and_true] at C
    try clear w10
    dsimp only
    go_step
    refine ⟨hs0, ?_⟩
    repeat (first | (refine wpX_skip rfl ?_; go_simp) | (refine wpX_free rfl rfl rfl (fun K hK => ?_); go_step; refine hK _ _ ?_; clear hK K) | (refine wpX_load rfl rfl rfl (by simp [Stay, OneD, NoD, *]) hs0 (by simp [*]) (fun K hK => ?_); go_step; refine hK _ _ ?_; clear hK K))
    refine wpX_eff rfl rfl (fun _ _ => ?_)
    go_step
    refine (same26 P L _ _ (by omega) _ (H.rowLies 7 gC_len rfl rfl) (H.rowLies 1 gC_len rfl rfl)).mono ?_
    rintro _ w12 ⟨rfl, hb⟩
    replace hs0 := hs0.belowS hz0 hb
    replace hz0 := Nat.le_trans hz0 hb.size
    replace H := H.below hb
    clear hb
    try clear C
    have C := H.cells
    try simp only [cellsOf, apartOf, and_true] at C
    try clear w11
    dsimp only
    go_step
    refine ⟨hs0, ?_⟩
    repeat (first | (refine wpX_skip rfl ?_; go_simp) | (refine wpX_free rfl rfl rfl (fun K hK => ?_); go_step; refine hK _ _ ?_; clear hK K) | (refine wpX_load rfl rfl rfl (by simp [Stay, OneD, NoD, *]) hs0 (by simp [*]) (fun K hK => ?_); go_step; refine hK _ _ ?_; clear hK K))
    refine wpX_eff rfl rfl (fun _ _ => ?_)
    go_step
    refine (awake26 _).mono ?_
    rintro _ w13 ⟨rfl, hb⟩
    replace hs0 := hs0.belowS hz0 hb
    replace hz0 := Nat.le_trans hz0 hb.size
    replace H := H.below hb
    clear hb
    try clear C
    have C := H.cells
    try simp only [cellsOf, apartOf, and_true] at C
    try clear w12
    dsimp only
    go_step
    refine ⟨hs0, ?_⟩
    repeat (first | (refine wpX_skip rfl ?_; go_simp) | (refine wpX_free rfl rfl rfl (fun K hK => ?_); go_step; refine hK _ _ ?_; clear hK K) | (refine wpX_load rfl rfl rfl (by simp [Stay, OneD, NoD, *]) hs0 (by simp [*]) (fun K hK => ?_); go_step; refine hK _ _ ?_; clear hK K))
    (refine wpX_nil ?_; go_step)
    go_wp2_with fail
    go_ret
    exact ⟨rfl, H.done⟩
  · rw [decide_eq_false h400] at hli
    have HLI := Lib.hid hli
    clear hli
    go_enter Try.func10, Try.ntmps10
    have H := HS.start NoD w
    go_wp2_with fail
    refine (gives_of (HLI.out _)).mono ?_
    rintro _ w1 ⟨rfl, hb⟩
    replace H := H.below hb
    clear hb
    try clear C
    try simp only [World.size_alloc, List.nil_append, List.cons_append, List.append_assoc] at H
    have C := H.cells
    try simp only [cellsOf, apartOf, and_true] at C
    dsimp only
    go_wp2_with fail
    refine (awake26 _).mono ?_
    rintro _ w2 ⟨rfl, hb⟩
    replace H := H.below hb
    clear hb
    try clear C
    try simp only [World.size_alloc, List.nil_append, List.cons_append, List.append_assoc] at H
    try clear w1
    have C := H.cells
    try simp only [cellsOf, apartOf, and_true] at C
    dsimp only
    go_wp2_with fail
    go_ret
    exact ⟨rfl, H.done⟩
end Go.Proofs.Ytcacgmfihhpliaa
